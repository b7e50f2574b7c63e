/- Concat of locks; who is ahead. -/
import Derived.Test.YtpmhiiembbfbeaaK11
set_option maxRecDepth 100000
set_option linter.all false
namespace Go.Proofs.Ve
open Go
theorem take_snoc' {α : Type} {l : List α} {k : Nat} {x : α} (h : l[k]? = some x) : l.take (k + 1) = l.take k ++ [x] := by
  rw [List.take_add_one, h]; rfl
theorem flat_snoc {α : Type} {ls : List (List α)} {k : Nat} {l : List α} (h : ls[k]? = some l) : (ls.take (k + 1)).flatten = (ls.take k).flatten ++ l := by
  rw [take_snoc' h]; simp
theorem flat_le {α : Type} (ls : List (List α)) (k : Nat) : (ls.take k).flatten.length ≤ ls.flatten.length := by
  have h : ls.flatten = (ls.take k).flatten ++ (ls.drop k).flatten := by rw [← List.flatten_append, List.take_append_drop]
  rw [h, List.length_append]; omega
def encLL (ls : List (List Lock)) : DV := .sl (ls.map fun l => [encLocks l])
theorem c84 (ls : List (List Lock)) (hn : ls.length < 1000000) (ht : ls.flatten.length < 1000000) (H : List (List Blk)) : CallEq X H 84 [.d (encLL ls)] (.row 0 0 ls.flatten.length) [⟨29, 7, ls.flatten.map cLock⟩] := by
  refine callEq_of_body X_ok rfl Try.func84 rfl ?_
  conv => whnf
  refine loopV_of (fun k : Nat => ⟨[.d (encLL ls), .any, .nils, .d (.int .i64 ((ls.take k).flatten.length : Nat)), .any, .any, .any, .any, .any, .d (encLL ls), .d (.int .i64 (ls.map fun l => [encLocks l]).length), .d (.int .i64 k), .any, .any, .any, .any, .any, .any, .any, .any, .any, .any, .any, .any, .any, .any, .any, .any, .any, .any, .any, .any, .any, .any, .any, .any], []⟩)
    (fun k => k ≤ ls.length) (fun k => ls.length - k) 0 [] (Nat.zero_le _) ?_ ?_
  · refine And.intro rfl (And.intro ?_ ?_)
    all_goals repeat' (first | exact True.intro | exact rfl | refine And.intro ?_ ?_)
  · intro k hk
    conv => whnf
    refine And.intro (fun h_ => ?_) (fun h_ => ?_)
    · conv => whnf
      have hk' : k < ls.length := by simpa using h_
      obtain ⟨l, hl⟩ : ∃ l, ls[k]? = some l := ⟨_, List.getElem?_eq_getElem hk'⟩
      have hf := flat_snoc hl
      have hf' : (ls.take (k + 1)).flatten.length = (ls.take k).flatten.length + l.length := by rw [hf]; simp
      have hle := flat_le ls (k + 1)
      refine ⟨by omega, [encLocks l], by simp [hl], rfl, ?_⟩
      conv => whnf
      intro z hz
      conv => whnf
      rw [show ((l.map cLock).length : Int) = (l.length : Int) by simp, wrap_small (by omega) (by omega)] at hz
      subst hz
      refine And.intro (fun h1 => ?_) (fun h1 => ?_)
      · simp at h1; omega
      conv => whnf
      intro z hz
      conv => whnf
      rw [wrap_small (by omega) (by omega)] at hz
      subst hz
      refine ⟨k + 1, [], by omega, by omega, And.intro rfl (And.intro ?_ ?_)⟩
      all_goals repeat' (first | exact True.intro | exact rfl | refine And.intro ?_ ?_)
      show DV.int .i64 _ = DV.int .i64 _
      rw [hf']; rfl
    · conv => whnf
      have hk' : k = ls.length := by simp at h_; omega
      subst hk'
      rw [List.take_length]
      refine ⟨by omega, ?_⟩
      conv => whnf
      refine ⟨by (first | omega | (dsimp only; omega) | (simp; done) | (simp; omega)), by (first | omega | (dsimp only; omega) | (simp; done) | (simp; omega)), fun h0 => ?_, fun h0 => ?_⟩
      all_goals
        conv => whnf
        refine loopV_of (fun k : Nat => ⟨[.d (encLL ls), .any, .nils, .any, .any, .any, .row 0 0 (ls.take k).flatten.length, .any, .any, .any, .any, .any, .any, .any, .any, .any, .any, .any, .any, .any, .any, .any, .any, .any, .any, .d (encLL ls), .d (.int .i64 (ls.map fun l => [encLocks l]).length), .d (.int .i64 k), .any, .any, .any, .any, .any, .any, .any, .any], [.row 29 7 ((ls.take k).flatten.map cLock)]⟩)
          (fun k => k ≤ ls.length) (fun k => ls.length - k) 0 [0] (Nat.zero_le _) ?_ ?_
        · refine And.intro rfl (And.intro ?_ ?_)
          all_goals repeat' (first | exact True.intro | exact rfl | refine And.intro ?_ ?_)
        · intro k hk
          conv => whnf
          refine And.intro (fun h_ => ?_) (fun h_ => ?_)
          · conv => whnf
            have hk' : k < ls.length := by simpa using h_
            obtain ⟨l, hl⟩ : ∃ l, ls[k]? = some l := ⟨_, List.getElem?_eq_getElem hk'⟩
            have hf := flat_snoc hl
            have hf' : (ls.take (k + 1)).flatten.length = (ls.take k).flatten.length + l.length := by rw [hf]; simp
            have hle := flat_le ls (k + 1)
            refine ⟨by omega, [encLocks l], by simp [hl], rfl, ?_⟩
            conv => whnf
            refine ⟨fun y hy => ?_, ?_⟩
            · simp only [List.mem_map] at hy; obtain ⟨_, _, rfl⟩ := hy; rfl
            conv => whnf
            refine ⟨(List.length_map _).symm, by rw [List.length_map]; (first | omega | (dsimp only; omega) | (simp; done) | (simp; omega)), ?_⟩
            conv => whnf
            intro z hz
            conv => whnf
            rw [wrap_small (by omega) (by omega)] at hz
            subst hz
            refine ⟨k + 1, [1], by omega, by omega, And.intro rfl (And.intro ?_ ?_)⟩
            all_goals (repeat' (first | exact True.intro | exact rfl | refine And.intro ?_ ?_))
            · show PV.row 0 1 _ = PV.row 0 1 _
              rw [hf', List.length_map]
            · rw [hf, List.map_append]
          · conv => whnf
            have hk' : k = ls.length := by simp at h_; omega
            subst hk'
            rw [List.take_length]
            exact ⟨[0], rfl, And.intro rfl rfl, And.intro (And.intro rfl (And.intro rfl rfl)) True.intro⟩
theorem c84f (a b : List Lock) (ha : a.length < 100000) (hb : b.length < 100000) (H : List (List Blk)) : CallEq X H 84 [.d (.sl [[encLocks a], [encLocks b]])] (.d (encLocks (a ++ b))) [] := by
  have h := (c84 [a, b] (by simp) (by simp; omega) H).freeze 1 (r' := .d (encLocks (a ++ b))) (by
    change PV.d (.sl (List.take _ (List.map cLock _))) = _
    rw [List.take_of_length_le (by simp)]
    simp [encLocks])
  exact h
/-! ### who is ahead -/
def aheadOf (x : Lock) (l : List Lock) : List Int := (l.filter fun y => lClash y x).map (·.owner)
theorem ahead_snoc {x y : Lock} {l : List Lock} {k : Nat} (h : l[k]? = some y) : aheadOf x (l.take (k + 1)) = aheadOf x (l.take k) ++ if lClash y x then [y.owner] else [] := by
  unfold aheadOf
  rw [take_snoc' h, List.filter_append, List.map_append]
  cases hc : lClash y x <;> simp [hc]
theorem ahead_len (x : Lock) (l : List Lock) : (aheadOf x l).length ≤ l.length := by
  unfold aheadOf; rw [List.length_map]; exact List.length_filter_le _ _
def lAhead (l : Locks) (x : Lock) (many : Nat) : List Int := compI (sortI (aheadOf x (l.held ++ l.queue.take many)))
theorem c45r (l : Locks) (x : Lock) (many : Nat) (hm : many ≤ l.queue.length) (h1 : l.held.length < 100000) (h2 : l.queue.length < 100000) (H : List (List Blk)) : CallEq X H 45 [pLocks l, pLock x, .d (.int .i64 many)] (.row 0 0 (lAhead l x many).length) [⟨3, 1, rowI (compZ (sortI (aheadOf x (l.held ++ l.queue.take many))))⟩] := by
  refine callEq_of_body X_ok rfl Try.func45 rfl ?_
  conv => whnf
  refine ⟨by omega, by simp; omega, ?_⟩
  conv => whnf
  have hc := fun H => c84f l.held (l.queue.take many) h1 (by simp; omega) H
  rw [show encLocks (l.queue.take many) = .sl (List.take (many : Int).toNat (l.queue.map cLock)) by rw [encLocks, List.map_take]; rfl] at hc
  refine ⟨_, _, hc _, True.intro, ?_⟩
  conv => whnf
  obtain ⟨L, hL⟩ : ∃ L, L = l.held ++ l.queue.take many := ⟨_, rfl⟩
  have hLl : L.length < 200000 := by rw [hL]; simp; omega
  rw [← hL]
  refine loopV_of (fun k : Nat => ⟨[.any, .any, .any, .ptr 0 0 0, .ptr 0 1 0, .any, .row 0 2 (aheadOf x (L.take k)).length, .any, .any, .any, .any, .any, .any, .any, .any, .any, .any, .any, .d (encLocks L), .d (.int .i64 (L.map cLock).length), .d (.int .i64 k), .any, .any, .any, .any, .any, .any, .any, .any, .any, .any, .any, .any, .any, .any, .any, .any], [.box [.d (encLocks l.held), .d (encLocks l.queue)], bLock x, .row 3 1 (rowI (aheadOf x (L.take k)))]⟩)
    (fun k => k ≤ L.length) (fun k => L.length - k) 0 [0, 1, 2] (Nat.zero_le _) ?_ ?_
  · refine And.intro rfl (And.intro ?_ ?_)
    all_goals (repeat' (first | exact True.intro | exact rfl | refine And.intro ?_ ?_))
  · intro k hk
    conv => whnf
    refine And.intro (fun h_ => ?_) (fun h_ => ?_)
    · conv => whnf
      have hk' : k < L.length := by simpa using h_
      obtain ⟨y, hy⟩ : ∃ y, L[k]? = some y := ⟨_, List.getElem?_eq_getElem hk'⟩
      have hs := ahead_snoc (x := x) hy
      have hle := ahead_len x (L.take k)
      have hle' : (L.take k).length ≤ k := List.length_take_le _ _
      refine ⟨by omega, cLock y, by simp [hy], rfl, ?_⟩
      conv => whnf
      refine ⟨_, _, c21 y x _, True.intro, ?_⟩
      conv => whnf
      refine And.intro (fun h1 => ?_) (fun h1 => ?_)
      · conv => whnf
        rw [h1, if_pos rfl] at hs
        have hs' : (aheadOf x (L.take (k + 1))).length = (aheadOf x (L.take k)).length + 1 := by rw [hs]; simp
        refine ⟨fun y hy => by simp at hy; subst hy; rfl, ?_⟩
        conv => whnf
        refine ⟨(rowI_len _).symm, by (first | omega | (dsimp only; omega) | (simp; done) | (simp; omega)), ?_⟩
        conv => whnf
        intro z hz
        conv => whnf
        rw [wrap_small (by omega) (by omega)] at hz
        subst hz
        refine ⟨k + 1, [0, 1, 4], by omega, by omega, And.intro rfl (And.intro ?_ ?_)⟩
        all_goals (repeat' (first | exact True.intro | exact rfl | refine And.intro ?_ ?_))
        · show PV.row 0 4 _ = PV.row 0 4 _
          rw [hs']; rfl
        · rw [hs]; simp [rowI]
      · conv => whnf
        rw [h1] at hs
        simp only [Bool.false_eq_true, if_false, List.append_nil] at hs
        intro z hz
        conv => whnf
        rw [wrap_small (by omega) (by omega)] at hz
        subst hz
        refine ⟨k + 1, [0, 1, 2], by omega, by omega, And.intro rfl (And.intro ?_ ?_)⟩
        all_goals (repeat' (first | exact True.intro | exact rfl | refine And.intro ?_ ?_))
        · show PV.row 0 2 _ = PV.row 0 2 _
          rw [hs]
        · rw [hs]
    · conv => whnf
      have hk' : k = L.length := by simp at h_; omega
      subst hk'
      rw [List.take_length]
      have hle := ahead_len x L
      refine ⟨_, _, _, c64 (aheadOf x L) (by omega) _, ?_⟩
      conv => whnf
      have c2 := fun H => c85 (sortI (aheadOf x L)) (by rw [sortI_len]; omega) H
      rw [sortI_len] at c2
      refine ⟨_, _, _, c2 _, ?_⟩
      conv => whnf
      have hr : lAhead l x many = compI (sortI (aheadOf x L)) := by rw [hL]; rfl
      rw [hr]
      exact ⟨[3], rfl, And.intro rfl rfl, And.intro (And.intro rfl (And.intro rfl rfl)) True.intro⟩
theorem encI_comp (s : List Int) : DV.sl ((rowI (compZ s)).take (compI s).length) = encI (compI s) := by
  unfold rowI compZ encI
  rw [List.map_append, List.take_append_of_le_length (by simp), List.take_of_length_le (by simp)]
theorem c45 (l : Locks) (x : Lock) (many : Nat) (hm : many ≤ l.queue.length) (h1 : l.held.length < 100000) (h2 : l.queue.length < 100000) (H : List (List Blk)) : CallEq X H 45 [pLocks l, pLock x, .d (.int .i64 many)] (.d (encI (lAhead l x many))) [] :=
  (c45r l x many hm h1 h2 H).freeze 1 (by
    change PV.d (.sl (List.take (lAhead l x many).length (rowI _))) = _
    unfold lAhead
    rw [encI_comp])
end Go.Proofs.Ve
