/- Locks in memory of their own: lists, Same. -/
import Derived.Test.YtpmhiiembbfbeaaK15
set_option maxRecDepth 100000
set_option linter.all false
namespace Go.Proofs.Ve
open Go
/-- spans of few bytes -/
def smallX (x : Lock) : Prop := x.span.lo.length ≤ 1000000 ∧ x.span.hi.length ≤ 1000000
def smallL (l : List Lock) : Prop := ∀ x ∈ l, smallX x
theorem c107 (x y : Lock) (T1 : List Blk) (rest : List Blk) (H : List (List Blk)) : CallEq X (T1 :: (bLock x :: rest) :: H) 107 [pLock y, .ptr 2 0 0] (.d (.bool (x.whole && y.whole && y.owner == x.owner && y.span.t == x.span.t))) [] := by
  refine callEq_of_body X_ok rfl Try.func107 rfl ?_
  conv => whnf
  repeat' (first
    | (refine And.intro (fun h_ => ?_) (fun h_ => ?_) <;> (conv => whnf))
    | (intro z_ hz_; conv => whnf)
    | (refine ⟨[], rfl, ?_, True.intro⟩; (conv => whnf); (first | done | (simp_all only [refP, Bool.not_true, Bool.not_false, Bool.true_and, Bool.false_and, Bool.and_true, Bool.and_false, Bool.true_or, Bool.false_or, Bool.or_true, Bool.or_false, Bool.not_not, Bool.not_eq_true', Bool.not_eq_false', if_true, if_false, Bool.false_eq_true, Bool.true_eq_false, List.length_map]; done))))
def lWholeP (x y : Lock) : Bool := x.whole && y.whole && y.owner == x.owner && y.span.t == x.span.t
theorem i107 (p : Lock → Bool) (l0 i0 : Nat) (xs : List Lock) (H : List (List Blk)) (hlen : xs.length < 1000000) (hp : ∀ x, x ∈ xs → ∀ T, CallEq X (T :: H) 107 [pLock x, .ptr (l0 + 2) i0 0] (.d (.bool (p x))) []) :
    CallEq X H 82 [.d (.sl (xs.map cLock)), .func (.func 107) [] [.ptr (l0 + 1) i0 0]] (.d (.int .i64 (idxOf p xs 0))) [] := by
  refine callEq_of_body X_ok rfl Try.func82 rfl ?_
  conv => whnf
  refine loopV_of (fun k : Nat => ⟨[.d (.sl (xs.map cLock)), .func (.func 107) [] [.ptr (l0 + 1) i0 0], .any, .any, .any, .any, .any, .d (.int .i64 (xs.map cLock).length), .d (.int .i64 k), .any, .any, .any, .any, .any, .any, .any, .any, .any, .any], []⟩) (fun k => k ≤ xs.length ∧ idxOf p xs 0 = idxOf p (xs.drop k) k) (fun k => xs.length - k) 0 [] ⟨Nat.zero_le _, by simp⟩ ?_ ?_
  · refine And.intro rfl (And.intro ?_ True.intro)
    repeat' (first | exact True.intro | exact rfl | refine And.intro ?_ ?_)
  · rintro k ⟨hk, hidx⟩
    conv => whnf
    refine And.intro (fun h_ => ?_) (fun h_ => ?_)
    · conv => whnf
      have hk' : k < xs.length := by simpa using h_
      obtain ⟨x, hx⟩ : ∃ x, xs[k]? = some x := ⟨_, List.getElem?_eq_getElem hk'⟩
      have hst := idxOf_step (p := p) hx
      refine ⟨by omega, cLock x, by simp [hx], rfl, ?_⟩
      conv => whnf
      refine ⟨_, _, hp x (List.mem_of_getElem? hx) _, True.intro, ?_⟩
      conv => whnf
      refine And.intro (fun h1 => ?_) (fun h1 => ?_)
      · conv => whnf
        refine ⟨[], rfl, ?_, True.intro⟩
        show DV.int .i64 (k : Int) = .int .i64 (idxOf p xs 0)
        rw [hidx, hst, h1]; rfl
      · conv => whnf
        intro z hz
        conv => whnf
        rw [wrap_small (by omega) (by omega)] at hz
        subst hz
        refine ⟨k + 1, [], ⟨by omega, ?_⟩, by omega, And.intro rfl (And.intro ?_ True.intro)⟩
        · rw [hidx, hst, h1]; rfl
        · repeat' (first | exact True.intro | exact rfl | refine And.intro ?_ ?_)
    · conv => whnf
      have hk' : k = xs.length := by simp at h_; omega
      refine ⟨[], rfl, ?_, True.intro⟩
      show DV.int .i64 (-1) = .int .i64 (idxOf p xs 0)
      rw [hidx, hk', List.drop_length]; rfl
def lWhole (l : List Lock) (x : Lock) : Int := idxOf (lWholeP x) l 0
theorem c67 (l : List Lock) (x : Lock) (hl : l.length < 1000000) (H : List (List Blk)) : CallEq X H 67 [.d (encLocks l), pLock x] (.d (.int .i64 (lWhole l x))) [] := by
  unfold lWhole
  refine callEq_of_body X_ok rfl Try.func67 rfl ?_
  conv => whnf
  repeat' (first
    | (refine And.intro (fun h_ => ?_) (fun h_ => ?_) <;> (conv => whnf))
    | (refine ⟨_, _, i107 (lWholeP x) 0 0 l _ hl (fun y _ T => c107 x y _ _ _), (by first | exact True.intro | exact And.intro rfl flat_nil), ?_⟩; conv => whnf)
    | (intro z_ hz_; conv => whnf)
    | (refine ⟨[], rfl, ?_, True.intro⟩; (conv => whnf); (first | done | (simp_all only [refP, Bool.not_true, Bool.not_false, Bool.true_and, Bool.false_and, Bool.and_true, Bool.and_false, Bool.true_or, Bool.false_or, Bool.or_true, Bool.or_false, Bool.not_not, Bool.not_eq_true', Bool.not_eq_false', if_true, if_false, Bool.false_eq_true, Bool.true_eq_false, List.length_map]; done))))
theorem c69 (x : Lock) (H : List (List Blk)) : CallEq X H 69 [pLock x] (.d (.bool false)) [] := by
  refine callEq_of_body X_ok rfl Try.func69 rfl ?_
  conv => whnf
  repeat' (first
    | (refine And.intro (fun h_ => ?_) (fun h_ => ?_) <;> (conv => whnf))
    | (intro z_ hz_; conv => whnf)
    | (refine ⟨[], rfl, ?_, True.intro⟩; (conv => whnf); (first | done | (simp_all only [refP, Bool.not_true, Bool.not_false, Bool.true_and, Bool.false_and, Bool.and_true, Bool.and_false, Bool.true_or, Bool.false_or, Bool.or_true, Bool.or_false, Bool.not_not, Bool.not_eq_true', Bool.not_eq_false', if_true, if_false, Bool.false_eq_true, Bool.true_eq_false, List.length_map]; done))))
theorem c102 (x : Lock) (H : List (List Blk)) : CallEq X H 102 [pLock x] (.d (.bool false)) [] := by
  refine callEq_of_body X_ok rfl Try.func102 rfl ?_
  conv => whnf
  repeat' (first
    | (refine And.intro (fun h_ => ?_) (fun h_ => ?_) <;> (conv => whnf))
    | (intro z_ hz_; conv => whnf)
    | (refine ⟨[], rfl, ?_, True.intro⟩; (conv => whnf); (first | done | (simp_all only [refP, Bool.not_true, Bool.not_false, Bool.true_and, Bool.false_and, Bool.and_true, Bool.and_false, Bool.true_or, Bool.false_or, Bool.or_true, Bool.or_false, Bool.not_not, Bool.not_eq_true', Bool.not_eq_false', if_true, if_false, Bool.false_eq_true, Bool.true_eq_false, List.length_map]; done))))
theorem c61 (x : Lock) (o : Int) (T1 : List Blk) (B0 : Blk) (rest : List Blk) (H : List (List Blk)) : CallEq X (T1 :: (B0 :: .box [.d (.int .i64 o)] :: rest) :: H) 61 [pLock x, .ptr 2 1 0] (.d (.bool (x.owner == o))) [] := by
  refine callEq_of_body X_ok rfl Try.func61 rfl ?_
  conv => whnf
  repeat' (first
    | (refine And.intro (fun h_ => ?_) (fun h_ => ?_) <;> (conv => whnf))
    | (intro z_ hz_; conv => whnf)
    | (refine ⟨[], rfl, ?_, True.intro⟩; (conv => whnf); (first | done | (simp_all only [refP, Bool.not_true, Bool.not_false, Bool.true_and, Bool.false_and, Bool.and_true, Bool.and_false, Bool.true_or, Bool.false_or, Bool.or_true, Bool.or_false, Bool.not_not, Bool.not_eq_true', Bool.not_eq_false', if_true, if_false, Bool.false_eq_true, Bool.true_eq_false, List.length_map]; done))))
theorem filter_snoc {α : Type} {p : α → Bool} {l : List α} {k : Nat} {x : α} (h : l[k]? = some x) : (l.take (k + 1)).filter p = (l.take k).filter p ++ bif p x then [x] else [] := by
  rw [take_snoc' h, List.filter_append]
  cases hp : p x <;> simp [hp]
theorem filter_le {α : Type} {p : α → Bool} {l : List α} (k : Nat) : ((l.take k).filter p).length ≤ l.length :=
  Nat.le_trans (List.length_filter_le _ _) (by rw [List.length_take]; omega)
theorem l69 (p : Lock → Bool)  (xs : List Lock) (H : List (List Blk)) (hlen : xs.length < 1000000) (hsm : smallL xs) (hp : ∀ x, x ∈ xs → ∀ T, CallEq X (T :: H) 69 [pLock x] (.d (.bool (p x))) []) :
    CallEq X H 62 [.d (encLocks xs), .func (.func 69) [] []] (.row 0 0 (xs.filter fun x => !p x).length) [⟨29, 7, (xs.filter fun x => !p x).map cLock⟩] := by
  refine callEq_of_body X_ok rfl Try.func62 rfl ?_
  conv => whnf
  refine loopV_of (fun k : Nat => ⟨[.any, .func (.func 69) [] [], .any, .any, .row 0 0 ((xs.take k).filter fun x => !p x).length, .any, .any, .d (encLocks xs), .d (.int .i64 (xs.map cLock).length), .d (.int .i64 k), .any, .any, .any, .any, .any, .any, .any, .any, .any, .any, .any, .any, .any, .any, .any, .any, .any, .any, .any, .any, .any, .any, .any, .any, .any], [.row 29 7 (((xs.take k).filter fun x => !p x).map cLock)]⟩)
    (fun k => k ≤ xs.length) (fun k => xs.length - k) 0 [0] (Nat.zero_le _) ?_ ?_
  · refine And.intro rfl (And.intro ?_ ?_)
    all_goals (repeat' (first | exact True.intro | exact rfl | refine And.intro ?_ ?_))
  · intro k hk
    conv => whnf
    refine And.intro (fun h_ => ?_) (fun h_ => ?_)
    · conv => whnf
      have hk' : k < xs.length := by simpa using h_
      obtain ⟨x, hx⟩ : ∃ x, xs[k]? = some x := ⟨_, List.getElem?_eq_getElem hk'⟩
      have hs := filter_snoc (p := fun x => !p x) hx
      have hle := filter_le (p := fun x => !p x) (l := xs) k
      obtain ⟨m1, m2⟩ := hsm x (List.mem_of_getElem? hx)
      refine ⟨by omega, cLock x, by simp [hx], rfl, ?_⟩
      conv => whnf
      refine ⟨_, _, hp x (List.mem_of_getElem? hx) _, True.intro, ?_⟩
      conv => whnf
      refine And.intro (fun q1 => ?_) (fun q1 => ?_) <;> (conv => whnf)
      rotate_left
      · have q1 : p x = true := by simpa using q1
        rw [q1] at hs
        simp only [Bool.not_true, cond_false, List.append_nil] at hs
        intro z hz
        conv => whnf
        rw [wrap_small (by omega) (by omega)] at hz
        subst hz
        refine ⟨k + 1, [0], by omega, by omega, And.intro rfl (And.intro ?_ ?_)⟩
        all_goals (repeat' (first | exact True.intro | exact rfl | refine And.intro ?_ ?_))
        · show PV.row 0 0 _ = PV.row 0 0 _
          rw [hs]
        · rw [hs]
      · have q1 : p x = false := by simpa using q1
        rw [q1] at hs
        simp only [Bool.not_false, cond_true] at hs
        have hs' : ((xs.take (k + 1)).filter fun x => !p x).length = ((xs.take k).filter fun x => !p x).length + 1 := by rw [hs]; simp
        refine ⟨_, _, c103 x.span.lo (by omega) _, True.intro, ?_⟩
        conv => whnf
        refine ⟨_, _, c103 x.span.hi (by omega) _, True.intro, ?_⟩
        conv => whnf
        refine ⟨fun y hy => by simp at hy; subst hy; rfl, ?_⟩
        conv => whnf
        refine ⟨by rw [List.length_map], by (first | omega | (dsimp only; omega) | (simp; done) | (simp; omega)), ?_⟩
        conv => whnf
        intro z hz
        conv => whnf
        rw [wrap_small (by omega) (by omega)] at hz
        subst hz
        refine ⟨k + 1, [2], by omega, by omega, And.intro rfl (And.intro ?_ ?_)⟩
        all_goals (repeat' (first | exact True.intro | exact rfl | refine And.intro ?_ ?_))
        · show PV.row 0 2 _ = PV.row 0 2 _
          rw [hs']; rfl
        · rw [hs, List.map_append]; rfl
    · conv => whnf
      have hk' : k = xs.length := by simp at h_; omega
      subst hk'
      rw [List.take_length]
      exact ⟨[0], rfl, And.intro rfl rfl, And.intro (And.intro rfl (And.intro rfl rfl)) True.intro⟩
theorem l102 (p : Lock → Bool)  (xs : List Lock) (H : List (List Blk)) (hlen : xs.length < 1000000) (hsm : smallL xs) (hp : ∀ x, x ∈ xs → ∀ T, CallEq X (T :: H) 102 [pLock x] (.d (.bool (p x))) []) :
    CallEq X H 62 [.d (encLocks xs), .func (.func 102) [] []] (.row 0 0 (xs.filter fun x => !p x).length) [⟨29, 7, (xs.filter fun x => !p x).map cLock⟩] := by
  refine callEq_of_body X_ok rfl Try.func62 rfl ?_
  conv => whnf
  refine loopV_of (fun k : Nat => ⟨[.any, .func (.func 102) [] [], .any, .any, .row 0 0 ((xs.take k).filter fun x => !p x).length, .any, .any, .d (encLocks xs), .d (.int .i64 (xs.map cLock).length), .d (.int .i64 k), .any, .any, .any, .any, .any, .any, .any, .any, .any, .any, .any, .any, .any, .any, .any, .any, .any, .any, .any, .any, .any, .any, .any, .any, .any], [.row 29 7 (((xs.take k).filter fun x => !p x).map cLock)]⟩)
    (fun k => k ≤ xs.length) (fun k => xs.length - k) 0 [0] (Nat.zero_le _) ?_ ?_
  · refine And.intro rfl (And.intro ?_ ?_)
    all_goals (repeat' (first | exact True.intro | exact rfl | refine And.intro ?_ ?_))
  · intro k hk
    conv => whnf
    refine And.intro (fun h_ => ?_) (fun h_ => ?_)
    · conv => whnf
      have hk' : k < xs.length := by simpa using h_
      obtain ⟨x, hx⟩ : ∃ x, xs[k]? = some x := ⟨_, List.getElem?_eq_getElem hk'⟩
      have hs := filter_snoc (p := fun x => !p x) hx
      have hle := filter_le (p := fun x => !p x) (l := xs) k
      obtain ⟨m1, m2⟩ := hsm x (List.mem_of_getElem? hx)
      refine ⟨by omega, cLock x, by simp [hx], rfl, ?_⟩
      conv => whnf
      refine ⟨_, _, hp x (List.mem_of_getElem? hx) _, True.intro, ?_⟩
      conv => whnf
      refine And.intro (fun q1 => ?_) (fun q1 => ?_) <;> (conv => whnf)
      rotate_left
      · have q1 : p x = true := by simpa using q1
        rw [q1] at hs
        simp only [Bool.not_true, cond_false, List.append_nil] at hs
        intro z hz
        conv => whnf
        rw [wrap_small (by omega) (by omega)] at hz
        subst hz
        refine ⟨k + 1, [0], by omega, by omega, And.intro rfl (And.intro ?_ ?_)⟩
        all_goals (repeat' (first | exact True.intro | exact rfl | refine And.intro ?_ ?_))
        · show PV.row 0 0 _ = PV.row 0 0 _
          rw [hs]
        · rw [hs]
      · have q1 : p x = false := by simpa using q1
        rw [q1] at hs
        simp only [Bool.not_false, cond_true] at hs
        have hs' : ((xs.take (k + 1)).filter fun x => !p x).length = ((xs.take k).filter fun x => !p x).length + 1 := by rw [hs]; simp
        refine ⟨_, _, c103 x.span.lo (by omega) _, True.intro, ?_⟩
        conv => whnf
        refine ⟨_, _, c103 x.span.hi (by omega) _, True.intro, ?_⟩
        conv => whnf
        refine ⟨fun y hy => by simp at hy; subst hy; rfl, ?_⟩
        conv => whnf
        refine ⟨by rw [List.length_map], by (first | omega | (dsimp only; omega) | (simp; done) | (simp; omega)), ?_⟩
        conv => whnf
        intro z hz
        conv => whnf
        rw [wrap_small (by omega) (by omega)] at hz
        subst hz
        refine ⟨k + 1, [2], by omega, by omega, And.intro rfl (And.intro ?_ ?_)⟩
        all_goals (repeat' (first | exact True.intro | exact rfl | refine And.intro ?_ ?_))
        · show PV.row 0 2 _ = PV.row 0 2 _
          rw [hs']; rfl
        · rw [hs, List.map_append]; rfl
    · conv => whnf
      have hk' : k = xs.length := by simp at h_; omega
      subst hk'
      rw [List.take_length]
      exact ⟨[0], rfl, And.intro rfl rfl, And.intro (And.intro rfl (And.intro rfl rfl)) True.intro⟩
theorem l61 (p : Lock → Bool) (l0 i0 : Nat) (xs : List Lock) (H : List (List Blk)) (hlen : xs.length < 1000000) (hsm : smallL xs) (hp : ∀ x, x ∈ xs → ∀ T, CallEq X (T :: H) 61 [pLock x, .ptr (l0 + 2) i0 0] (.d (.bool (p x))) []) :
    CallEq X H 62 [.d (encLocks xs), .func (.func 61) [] [.ptr (l0 + 1) i0 0]] (.row 0 0 (xs.filter fun x => !p x).length) [⟨29, 7, (xs.filter fun x => !p x).map cLock⟩] := by
  refine callEq_of_body X_ok rfl Try.func62 rfl ?_
  conv => whnf
  refine loopV_of (fun k : Nat => ⟨[.any, .func (.func 61) [] [.ptr (l0 + 1) i0 0], .any, .any, .row 0 0 ((xs.take k).filter fun x => !p x).length, .any, .any, .d (encLocks xs), .d (.int .i64 (xs.map cLock).length), .d (.int .i64 k), .any, .any, .any, .any, .any, .any, .any, .any, .any, .any, .any, .any, .any, .any, .any, .any, .any, .any, .any, .any, .any, .any, .any, .any, .any], [.row 29 7 (((xs.take k).filter fun x => !p x).map cLock)]⟩)
    (fun k => k ≤ xs.length) (fun k => xs.length - k) 0 [0] (Nat.zero_le _) ?_ ?_
  · refine And.intro rfl (And.intro ?_ ?_)
    all_goals (repeat' (first | exact True.intro | exact rfl | refine And.intro ?_ ?_))
  · intro k hk
    conv => whnf
    refine And.intro (fun h_ => ?_) (fun h_ => ?_)
    · conv => whnf
      have hk' : k < xs.length := by simpa using h_
      obtain ⟨x, hx⟩ : ∃ x, xs[k]? = some x := ⟨_, List.getElem?_eq_getElem hk'⟩
      have hs := filter_snoc (p := fun x => !p x) hx
      have hle := filter_le (p := fun x => !p x) (l := xs) k
      obtain ⟨m1, m2⟩ := hsm x (List.mem_of_getElem? hx)
      refine ⟨by omega, cLock x, by simp [hx], rfl, ?_⟩
      conv => whnf
      refine ⟨_, _, hp x (List.mem_of_getElem? hx) _, True.intro, ?_⟩
      conv => whnf
      refine And.intro (fun q1 => ?_) (fun q1 => ?_) <;> (conv => whnf)
      rotate_left
      · have q1 : p x = true := by simpa using q1
        rw [q1] at hs
        simp only [Bool.not_true, cond_false, List.append_nil] at hs
        intro z hz
        conv => whnf
        rw [wrap_small (by omega) (by omega)] at hz
        subst hz
        refine ⟨k + 1, [0], by omega, by omega, And.intro rfl (And.intro ?_ ?_)⟩
        all_goals (repeat' (first | exact True.intro | exact rfl | refine And.intro ?_ ?_))
        · show PV.row 0 0 _ = PV.row 0 0 _
          rw [hs]
        · rw [hs]
      · have q1 : p x = false := by simpa using q1
        rw [q1] at hs
        simp only [Bool.not_false, cond_true] at hs
        have hs' : ((xs.take (k + 1)).filter fun x => !p x).length = ((xs.take k).filter fun x => !p x).length + 1 := by rw [hs]; simp
        refine ⟨_, _, c103 x.span.lo (by omega) _, True.intro, ?_⟩
        conv => whnf
        refine ⟨_, _, c103 x.span.hi (by omega) _, True.intro, ?_⟩
        conv => whnf
        refine ⟨fun y hy => by simp at hy; subst hy; rfl, ?_⟩
        conv => whnf
        refine ⟨by rw [List.length_map], by (first | omega | (dsimp only; omega) | (simp; done) | (simp; omega)), ?_⟩
        conv => whnf
        intro z hz
        conv => whnf
        rw [wrap_small (by omega) (by omega)] at hz
        subst hz
        refine ⟨k + 1, [2], by omega, by omega, And.intro rfl (And.intro ?_ ?_)⟩
        all_goals (repeat' (first | exact True.intro | exact rfl | refine And.intro ?_ ?_))
        · show PV.row 0 2 _ = PV.row 0 2 _
          rw [hs']; rfl
        · rw [hs, List.map_append]; rfl
    · conv => whnf
      have hk' : k = xs.length := by simp at h_; omega
      subst hk'
      rw [List.take_length]
      exact ⟨[0], rfl, And.intro rfl rfl, And.intro (And.intro rfl (And.intro rfl rfl)) True.intro⟩
end Go.Proofs.Ve
