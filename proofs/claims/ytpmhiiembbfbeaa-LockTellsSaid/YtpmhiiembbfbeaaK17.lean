/- Locks of one's own; one more held; the least mode of two. -/
import Derived.Test.YtpmhiiembbfbeaaK16
set_option maxRecDepth 100000
set_option linter.all false
namespace Go.Proofs.Ve
open Go
theorem filter_all {α : Type} (l : List α) : (l.filter fun _ => !false) = l := by simp
def rLocks (l : List Lock) : RowB := ⟨29, 7, l.map cLock⟩
theorem l102' (xs : List Lock) (H : List (List Blk)) (hlen : xs.length < 1000000) (hsm : smallL xs) : CallEq X H 62 [.d (encLocks xs), .func (.func 102) [] []] (.row 0 0 xs.length) [rLocks xs] := by
  have h := l102 (fun _ => false) xs H hlen hsm (fun x _ T => c102 x _)
  rw [filter_all] at h; exact h
theorem l69' (xs : List Lock) (H : List (List Blk)) (hlen : xs.length < 1000000) (hsm : smallL xs) : CallEq X H 62 [.d (encLocks xs), .func (.func 69) [] []] (.row 0 0 xs.length) [rLocks xs] := by
  have h := l69 (fun _ => false) xs H hlen hsm (fun x _ T => c69 x _)
  rw [filter_all] at h; exact h
def rowsL (l : Locks) : PV := .agg [.row 0 0 l.held.length, .row 0 1 l.queue.length]
def smallLs (l : Locks) : Prop := l.held.length < 100000 ∧ l.queue.length < 100000 ∧ smallL l.held ∧ smallL l.queue
theorem c60 (l : Locks) (hs : smallLs l) (H : List (List Blk)) : CallEq X H 60 [pLocks l] (rowsL l) [rLocks l.held, rLocks l.queue] := by
  obtain ⟨h1, h2, h3, h4⟩ := hs
  refine callEq_of_body X_ok rfl Try.func60 rfl ?_
  conv => whnf
  refine ⟨_, _, l102' l.held _ (by omega) h3, True.intro, ?_⟩
  conv => whnf
  refine ⟨_, _, l102' l.queue _ (by omega) h4, True.intro, ?_⟩
  conv => whnf
  exact ⟨[2, 3], rfl, (by (repeat' (first | exact True.intro | exact rfl | refine And.intro ?_ ?_))), And.intro (And.intro rfl (And.intro rfl rfl)) (And.intro (And.intro rfl (And.intro rfl rfl)) True.intro)⟩
theorem fzL (l : Locks) : fz [rLocks l.held, rLocks l.queue] 2 (rowsL l) = pLocks l := by
  change PV.agg [.d (.sl (List.take l.held.length (l.held.map cLock))), .d (.sl (List.take l.queue.length (l.queue.map cLock)))] = _
  rw [List.take_of_length_le (by simp), List.take_of_length_le (by simp)]; rfl
theorem c60f (l : Locks) (hs : smallLs l) (H : List (List Blk)) : CallEq X H 60 [pLocks l] (pLocks l) [] := (c60 l hs H).freeze 2 (fzL l)
/-! ### one more held -/
def holdL (l : List Lock) (x : Lock) : List Lock := if lWhole l x ≥ 0 then l.set (lWhole l x).toNat x else l ++ [x]
theorem idxOf_lt {α : Type} (p : α → Bool) : ∀ (l : List α) (k : Int), 0 ≤ k → idxOf p l k ≥ 0 → k ≤ idxOf p l k ∧ ∃ y, l[(idxOf p l k - k).toNat]? = some y ∧ p y = true
  | [], k, hk, h => by simp [idxOf] at h
  | x :: l, k, hk, h => by
    cases hx : p x with
    | true => rw [idxOf, hx]; exact ⟨by simp, x, by simp, hx⟩
    | false =>
      rw [idxOf, hx] at h ⊢
      obtain ⟨h1, y, h2, h3⟩ := idxOf_lt p l (k + 1) (by omega) h
      refine ⟨by simp; omega, y, ?_, h3⟩
      simp only [cond_false]
      rw [show (idxOf p l (k + 1) - k).toNat = (idxOf p l (k + 1) - (k + 1)).toNat + 1 by omega]
      simpa using h2
theorem whole_at {l : List Lock} {x : Lock} (h : lWhole l x ≥ 0) : ∃ y, l[(lWhole l x).toNat]? = some y := by
  obtain ⟨_, y, h1, _⟩ := idxOf_lt (lWholeP x) l 0 (by omega) h
  exact ⟨y, by simpa [lWhole] using h1⟩
theorem c63 (l : List Lock) (x : Lock) (hl : l.length < 1000000) (H : List (List Blk)) : CallEqG X H 63 [rLocks l] [.row 0 0 l.length, pLock x] [none] (.row 0 0 (holdL l x).length) [rLocks (holdL l x)] := by
  refine callEqG_of_body (G := [rLocks l]) X_ok rfl Try.func63 rfl ?_
  conv => whnf
  have hc := fun H => c67 l x hl H
  rw [show encLocks l = .sl (List.take l.length (l.map cLock)) by rw [List.take_of_length_le (by simp)]; rfl] at hc
  refine ⟨_, _, hc _, And.intro rfl flat_nil, ?_⟩
  conv => whnf
  refine And.intro (fun q1 => ?_) (fun q1 => ?_) <;> (conv => whnf)
  · have q1 : lWhole l x ≥ 0 := by simpa using q1
    have hh : holdL l x = l.set (lWhole l x).toNat x := by unfold holdL; rw [if_pos q1]
    obtain ⟨y, hy⟩ := whole_at q1
    have hlt := (List.getElem?_eq_some_iff.1 hy).1
    refine ⟨q1, by omega, ?_⟩
    conv => whnf
    refine ⟨cLock y, by show (l.map cLock)[_]? = _; rw [List.getElem?_map, hy]; rfl, ?_⟩
    conv => whnf
    rw [hh]
    refine ⟨[0], rfl, And.intro rfl ?_, And.intro (And.intro rfl (And.intro rfl ?_)) True.intro⟩
    · show PV.row 0 0 _ = PV.row 0 0 _
      rw [List.length_set]
    · show _ = (rLocks (l.set _ x)).xs
      unfold rLocks; dsimp only; rw [List.map_set]; rfl
  · have q1 : ¬ lWhole l x ≥ 0 := by simpa using q1
    have hh : holdL l x = l ++ [x] := by unfold holdL; rw [if_neg q1]
    refine ⟨fun y hy => by simp at hy; subst hy; rfl, ?_⟩
    conv => whnf
    refine ⟨(List.length_map _).symm, by (first | omega | (dsimp only; omega) | (simp; done) | (simp; omega)), ?_⟩
    conv => whnf
    rw [hh]
    refine ⟨[2], rfl, And.intro rfl ?_, And.intro (And.intro rfl (And.intro rfl ?_)) True.intro⟩
    · show PV.row 0 2 _ = PV.row 0 2 _
      simp
    · show _ = (rLocks (l ++ [x])).xs
      unfold rLocks; dsimp only; rw [List.map_append]; rfl
/-! ### the least mode of two -/
def mJoinF (a b : Int) : List Int → Int
  | [] => 0
  | m :: ms => bif mCovers m a && mCovers m b then m else mJoinF a b ms
def mJoin (a b : Int) : Int := mJoinF a b [1, 2, 3, 4, 5]
theorem c68 (a b : Int) (H : List (List Blk)) : CallEq X H 68 [.d (.int .i64 a), .d (.int .i64 b)] (.d (.int .i64 (mJoin a b))) [] := by
  refine callEq_of_body X_ok rfl Try.func68 rfl ?_
  conv => whnf
  refine loopV_of (fun k : Nat => ⟨[.d (.int .i64 a), .d (.int .i64 b), .any, .any, .any, .any, .any, .d (.int .i64 k), .any, .any, .any, .any, .any, .any, .any, .any, .any, .any, .any, .any, .any, .any], []⟩)
    (fun k => k ≤ 5 ∧ mJoin a b = mJoinF a b (([1, 2, 3, 4, 5] : List Int).drop k)) (fun k => 5 - k) 0 [] ⟨Nat.zero_le _, rfl⟩ ?_ ?_
  · refine And.intro rfl (And.intro ?_ ?_)
    all_goals (repeat' (first | exact True.intro | exact rfl | refine And.intro ?_ ?_))
  · rintro k ⟨hk, hidx⟩
    conv => whnf
    refine And.intro (fun h_ => ?_) (fun h_ => ?_)
    · conv => whnf
      have hk' : k < 5 := by simp at h_; omega
      have hst : mJoinF a b (([1, 2, 3, 4, 5] : List Int).drop k) = bif mCovers ((k : Int) + 1) a && mCovers ((k : Int) + 1) b then (k : Int) + 1 else mJoinF a b (([1, 2, 3, 4, 5] : List Int).drop (k + 1)) := by
        match k, hk' with
        | 0, _ | 1, _ | 2, _ | 3, _ | 4, _ => rfl
      intro z hz
      conv => whnf
      rw [wrap_small (by omega) (by omega)] at hz
      subst hz
      have next : (mCovers ((k : Int) + 1) a && mCovers ((k : Int) + 1) b) = false → mJoin a b = mJoinF a b (([1, 2, 3, 4, 5] : List Int).drop (k + 1)) := fun h => by rw [hidx, hst, h]; rfl
      refine ⟨_, _, c87 _ _ _, True.intro, ?_⟩
      conv => whnf
      refine And.intro (fun q1 => ?_) (fun q1 => ?_) <;> (conv => whnf)
      · refine ⟨_, _, c87 _ _ _, True.intro, ?_⟩
        conv => whnf
        refine And.intro (fun q2 => ?_) (fun q2 => ?_) <;> (conv => whnf)
        · refine ⟨[], rfl, ?_, True.intro⟩
          show DV.int .i64 _ = .int .i64 (mJoin a b)
          rw [hidx, hst, q1, q2]; rfl
        · intro z hz
          conv => whnf
          rw [wrap_small (by omega) (by omega)] at hz
          subst hz
          refine ⟨k + 1, [], ⟨by omega, next (by rw [q1, q2]; rfl)⟩, by omega, And.intro rfl (And.intro ?_ ?_)⟩
          all_goals (repeat' (first | exact True.intro | exact rfl | refine And.intro ?_ ?_))
      · intro z hz
        conv => whnf
        rw [wrap_small (by omega) (by omega)] at hz
        subst hz
        refine ⟨k + 1, [], ⟨by omega, next (by rw [q1]; rfl)⟩, by omega, And.intro rfl (And.intro ?_ ?_)⟩
        all_goals (repeat' (first | exact True.intro | exact rfl | refine And.intro ?_ ?_))
    · conv => whnf
      have hk' : k = 5 := by simp at h_; omega
      refine ⟨[], rfl, ?_, True.intro⟩
      show DV.int .i64 0 = .int .i64 (mJoin a b)
      rw [hidx, hk']; rfl
end Go.Proofs.Ve
