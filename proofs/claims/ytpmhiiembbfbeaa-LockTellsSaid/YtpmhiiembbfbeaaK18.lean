/- Ask: locks with one more. -/
import Derived.Test.YtpmhiiembbfbeaaK17
set_option maxRecDepth 100000
set_option linter.all false
namespace Go.Proofs.Ve
open Go
theorem c65 (x y : Lock) (T1 T2 : List Blk) (B0 : Blk) (rest : List Blk) (H : List (List Blk)) : CallEq X (T1 :: T2 :: (B0 :: bLock x :: rest) :: H) 65 [pLock y, .ptr 3 1 0] (.d (.bool (lServes y x))) [] := by
  refine callEq_of_body X_ok rfl Try.func65 rfl ?_
  conv => whnf
  repeat' (first
    | (refine And.intro (fun h_ => ?_) (fun h_ => ?_) <;> (conv => whnf))
    | (refine ⟨_, _, c66 y x _, (by first | exact True.intro | exact And.intro rfl flat_nil), ?_⟩; conv => whnf)
    | (intro z_ hz_; conv => whnf)
    | (refine ⟨[], rfl, ?_, True.intro⟩; (conv => whnf); (first | done | (simp_all only [refP, Bool.not_true, Bool.not_false, Bool.true_and, Bool.false_and, Bool.and_true, Bool.and_false, Bool.true_or, Bool.false_or, Bool.or_true, Bool.or_false, Bool.not_not, Bool.not_eq_true', Bool.not_eq_false', if_true, if_false, Bool.false_eq_true, Bool.true_eq_false, List.length_map]; done))))
theorem i65 (p : Lock → Bool) (l0 i0 : Nat) (xs : List Lock) (H : List (List Blk)) (hlen : xs.length < 1000000) (hp : ∀ x, x ∈ xs → ∀ T, CallEq X (T :: H) 65 [pLock x, .ptr (l0 + 2) i0 0] (.d (.bool (p x))) []) :
    CallEq X H 82 [.d (.sl (xs.map cLock)), .func (.func 65) [] [.ptr (l0 + 1) i0 0]] (.d (.int .i64 (idxOf p xs 0))) [] := by
  refine callEq_of_body X_ok rfl Try.func82 rfl ?_
  conv => whnf
  refine loopV_of (fun k : Nat => ⟨[.d (.sl (xs.map cLock)), .func (.func 65) [] [.ptr (l0 + 1) i0 0], .any, .any, .any, .any, .any, .d (.int .i64 (xs.map cLock).length), .d (.int .i64 k), .any, .any, .any, .any, .any, .any, .any, .any, .any, .any], []⟩) (fun k => k ≤ xs.length ∧ idxOf p xs 0 = idxOf p (xs.drop k) k) (fun k => xs.length - k) 0 [] ⟨Nat.zero_le _, by simp⟩ ?_ ?_
  · refine And.intro rfl (And.intro ?_ True.intro)
    repeat' (first | exact True.intro | exact rfl | refine And.intro ?_ ?_)
  · rintro k ⟨hk, hidx⟩
    conv => whnf
    refine And.intro (fun h_ => ?_) (fun h_ => ?_)
    · conv => whnf
      have hk' : k < xs.length := by simpa using h_
      obtain ⟨x, hx⟩ : ∃ x, xs[k]? = some x := ⟨_, List.getElem?_eq_getElem hk'⟩
      have hst := idxOf_step (p := p) hx
      refine ⟨by omega, cLock x, by simp [hx], rfl, ?_⟩
      conv => whnf
      refine ⟨_, _, hp x (List.mem_of_getElem? hx) _, True.intro, ?_⟩
      conv => whnf
      refine And.intro (fun h1 => ?_) (fun h1 => ?_)
      · conv => whnf
        refine ⟨[], rfl, ?_, True.intro⟩
        show DV.int .i64 (k : Int) = .int .i64 (idxOf p xs 0)
        rw [hidx, hst, h1]; rfl
      · conv => whnf
        intro z hz
        conv => whnf
        rw [wrap_small (by omega) (by omega)] at hz
        subst hz
        refine ⟨k + 1, [], ⟨by omega, ?_⟩, by omega, And.intro rfl (And.intro ?_ True.intro)⟩
        · rw [hidx, hst, h1]; rfl
        · repeat' (first | exact True.intro | exact rfl | refine And.intro ?_ ?_)
    · conv => whnf
      have hk' : k = xs.length := by simp at h_; omega
      refine ⟨[], rfl, ?_, True.intro⟩
      show DV.int .i64 (-1) = .int .i64 (idxOf p xs 0)
      rw [hidx, hk', List.drop_length]; rfl
theorem c51e (p : Lock → Bool) (l0 i0 : Nat) (xs : List Lock) (hl : xs.length < 1000000) (H : List (List Blk)) (hp : ∀ x, x ∈ xs → ∀ T T', CallEq X (T :: T' :: H) 65 [pLock x, .ptr (l0 + 3) i0 0] (.d (.bool (p x))) []) : CallEq X H 51 [.d (encLocks xs), .func (.func 65) [] [.ptr (l0 + 1) i0 0]] (.d (.bool (xs.any p))) [] := by
  rw [← idxOf_ge _ xs 0 (Int.le_refl _)]
  refine callEq_of_body X_ok rfl Try.func51 rfl ?_
  conv => whnf
  repeat' (first
    | (refine And.intro (fun h_ => ?_) (fun h_ => ?_) <;> (conv => whnf))
    | (refine ⟨_, _, i65 p _ _ xs _ hl (fun x hx T => hp x hx T _), (by first | exact True.intro | exact And.intro rfl flat_nil), ?_⟩; conv => whnf)
    | (intro z_ hz_; conv => whnf)
    | (refine ⟨[], rfl, ?_, True.intro⟩; (conv => whnf); (first | done | (simp_all only [refP, Bool.not_true, Bool.not_false, Bool.true_and, Bool.false_and, Bool.and_true, Bool.and_false, Bool.true_or, Bool.false_or, Bool.or_true, Bool.or_false, Bool.not_not, Bool.not_eq_true', Bool.not_eq_false', if_true, if_false, Bool.false_eq_true, Bool.true_eq_false, List.length_map]; done))))
def atMode (l : List Lock) (k : Nat) : Int := match l[k]? with | some y => y.mode | none => 0
def lJoined (l : Locks) (x : Lock) : Lock := if lWhole l.held x ≥ 0 then { x with mode := mJoin x.mode (atMode l.held (lWhole l.held x).toNat) } else x
def lAsk (l : Locks) (x : Lock) : Locks × Int :=
  if !lCheck l || (!lMay x || lWaits l x.owner) then (l, 1)
  else if l.held.any (fun h => lServes h x) then (l, 0)
  else if decide ((l.held.length : Int) + l.queue.length ≥ 40) then (l, 111)
  else if decide (((lAhead l (lJoined l x) l.queue.length).length : Int) > 0) then (⟨l.held, l.queue ++ [lJoined l x]⟩, 110)
  else (⟨holdL l.held (lJoined l x), l.queue⟩, 0)
def pAsk (r : Locks × Int) : PV := .tuple [rowsL r.1, .d (.int .i64 r.2)]
theorem c26r (l : Locks) (x : Lock) (hs : smallLs l) (hx : smallX x) (H : List (List Blk)) : CallEq X H 26 [pLocks l, pLock x] (pAsk (lAsk l x)) [rLocks (lAsk l x).1.held, rLocks (lAsk l x).1.queue] := by
  have hs0 := hs
  obtain ⟨h1, h2, h3, h4⟩ := hs
  refine callEq_of_body X_ok rfl Try.func26 rfl ?_
  conv => whnf
  refine ⟨_, _, c60 l hs0 _, True.intro, ?_⟩
  conv => whnf
  refine ⟨_, _, c19 l h1 h2 _, True.intro, ?_⟩
  conv => whnf
  have arg : (!lCheck l || (!lMay x || lWaits l x.owner)) = true → lAsk l x = (l, 1) := fun h => by unfold lAsk; rw [h]; rfl
  refine And.intro (fun q1 => ?_) (fun q1 => ?_) <;> (conv => whnf)
  rotate_left
  · have q1 : lCheck l = false := by simpa using q1
    rw [arg (by rw [q1]; rfl)]
    exact ⟨[3, 4], rfl, (by (repeat' (first | exact True.intro | exact rfl | refine And.intro ?_ ?_))), And.intro (And.intro rfl (And.intro rfl rfl)) (And.intro (And.intro rfl (And.intro rfl rfl)) True.intro)⟩
  have q1 : lCheck l = true := by simpa using q1
  refine ⟨_, _, c50 x _, True.intro, ?_⟩
  conv => whnf
  refine And.intro (fun q2 => ?_) (fun q2 => ?_) <;> (conv => whnf)
  rotate_left
  · have q2 : lMay x = false := by simpa using q2
    rw [arg (by rw [q2]; simp)]
    exact ⟨[3, 4], rfl, (by (repeat' (first | exact True.intro | exact rfl | refine And.intro ?_ ?_))), And.intro (And.intro rfl (And.intro rfl rfl)) (And.intro (And.intro rfl (And.intro rfl rfl)) True.intro)⟩
  have q2 : lMay x = true := by simpa using q2
  refine ⟨_, _, c23 l x.owner h1 h2 _, True.intro, ?_⟩
  conv => whnf
  refine And.intro (fun q3 => ?_) (fun q3 => ?_) <;> (conv => whnf)
  · have q3 : lWaits l x.owner = true := by simpa using q3
    rw [arg (by rw [q3]; simp)]
    exact ⟨[3, 4], rfl, (by (repeat' (first | exact True.intro | exact rfl | refine And.intro ?_ ?_))), And.intro (And.intro rfl (And.intro rfl rfl)) (And.intro (And.intro rfl (And.intro rfl rfl)) True.intro)⟩
  have q3 : lWaits l x.owner = false := by simpa using q3
  have k1 : lAsk l x = if l.held.any (fun h => lServes h x) then (l, 0)
      else if decide ((l.held.length : Int) + l.queue.length ≥ 40) then (l, 111)
      else if decide (((lAhead l (lJoined l x) l.queue.length).length : Int) > 0) then (⟨l.held, l.queue ++ [lJoined l x]⟩, 110)
      else (⟨holdL l.held (lJoined l x), l.queue⟩, 0) := by unfold lAsk; rw [q1, q2, q3]; rfl
  refine ⟨_, _, c51e (fun h => lServes h x) 0 1 l.held (by omega) _ (fun y _ T T' => c65 x y T T' _ _ _), True.intro, ?_⟩
  conv => whnf
  refine And.intro (fun q4 => ?_) (fun q4 => ?_) <;> (conv => whnf)
  · rw [k1, if_pos q4]
    exact ⟨[3, 4], rfl, (by (repeat' (first | exact True.intro | exact rfl | refine And.intro ?_ ?_))), And.intro (And.intro rfl (And.intro rfl rfl)) (And.intro (And.intro rfl (And.intro rfl rfl)) True.intro)⟩
  rw [if_neg (by simpa using q4)] at k1
  refine ⟨_, _, c67 l.held x (by omega) _, True.intro, ?_⟩
  conv => whnf
  -- behind the join
  refine And.intro (fun q5 => ?_) (fun q5 => ?_) <;> (conv => whnf)
  · have q5 : lWhole l.held x ≥ 0 := by simpa using q5
    obtain ⟨y, hy⟩ := whole_at q5
    refine ⟨q5, cLock y, by rw [List.getElem?_map, hy]; rfl, rfl, ?_⟩
    conv => whnf
    refine ⟨_, _, c68 _ _ _, True.intro, ?_⟩
    conv => whnf
    have ej : lJoined l x = (⟨x.owner, x.whole, x.span, mJoin x.mode y.mode⟩ : Lock) := by unfold lJoined atMode; rw [if_pos q5, hy]
    rw [ej] at k1
    refine ⟨_, _, l69' [(⟨x.owner, x.whole, x.span, mJoin x.mode y.mode⟩ : Lock)] _ (by simp) (fun y hy => by simp at hy; subst hy; exact hx), True.intro, ?_⟩
    conv => whnf
    refine ⟨by decide, by (first | omega | (dsimp only; omega) | (simp; done) | (simp; omega)), cLock (⟨x.owner, x.whole, x.span, mJoin x.mode y.mode⟩ : Lock), rfl, ?_⟩
    conv => whnf
    intro z hz
    conv => whnf
    rw [wrap_small (by (first | omega | (dsimp only; omega) | (simp; done) | (simp; omega))) (by (first | omega | (dsimp only; omega) | (simp; done) | (simp; omega))), List.length_map, List.length_map] at hz
    subst hz
    refine And.intro (fun q6 => ?_) (fun q6 => ?_) <;> (conv => whnf)
    · rw [k1, if_pos q6]
      exact ⟨[3, 4], rfl, (by (repeat' (first | exact True.intro | exact rfl | refine And.intro ?_ ?_))), And.intro (And.intro rfl (And.intro rfl rfl)) (And.intro (And.intro rfl (And.intro rfl rfl)) True.intro)⟩
    rw [if_neg (by simpa using q6)] at k1
    have hb : l.held.length + l.queue.length < 40 := by simp at q6; omega
    have hc := fun H => c45 l (⟨x.owner, x.whole, x.span, mJoin x.mode y.mode⟩ : Lock) l.queue.length (Nat.le_refl _) h1 h2 H
    rw [show ((l.queue.length : Nat) : Int) = ((l.queue.map cLock).length : Int) by simp] at hc
    refine ⟨_, _, hc _, True.intro, ?_⟩
    conv => whnf
    have e0 : (((lAhead l (⟨x.owner, x.whole, x.span, mJoin x.mode y.mode⟩ : Lock) l.queue.length).map fun x => [DV.int .i64 x]).length : Int) = ((lAhead l (⟨x.owner, x.whole, x.span, mJoin x.mode y.mode⟩ : Lock) l.queue.length).length : Int) := by simp
    refine And.intro (fun q7 => ?_) (fun q7 => ?_) <;> (conv => whnf)
    · have q7 : decide ((((lAhead l (⟨x.owner, x.whole, x.span, mJoin x.mode y.mode⟩ : Lock) l.queue.length).map fun x => [DV.int .i64 x]).length : Int) > 0) = true := q7
      rw [e0] at q7
      rw [k1, if_pos q7]
      refine ⟨fun y hy => by simp at hy; subst hy; rfl, ?_⟩
      conv => whnf
      refine ⟨(List.length_map _).symm, by (first | omega | (dsimp only; omega) | (simp; done) | (simp; omega)), ?_⟩
      conv => whnf
      refine ⟨[3, 7], rfl, ?_, And.intro (And.intro rfl (And.intro rfl rfl)) (And.intro (And.intro rfl (And.intro rfl ?_)) True.intro)⟩
      · (repeat' (first | exact True.intro | exact rfl | refine And.intro ?_ ?_))
        show PV.row 0 7 (_ + _) = PV.row 0 7 (List.length (_ ++ _))
        rw [List.length_append]; rfl
      · show _ = List.map cLock (_ ++ _)
        rw [List.map_append]; rfl
    · have q7 : decide ((((lAhead l (⟨x.owner, x.whole, x.span, mJoin x.mode y.mode⟩ : Lock) l.queue.length).map fun x => [DV.int .i64 x]).length : Int) > 0) = false := q7
      rw [e0] at q7
      rw [k1, if_neg (by simpa using q7)]
      refine ⟨_, _, _, c63 l.held (⟨x.owner, x.whole, x.span, mJoin x.mode y.mode⟩ : Lock) (by omega) _, ?_⟩
      conv => whnf
      exact ⟨[7, 4], rfl, (by (repeat' (first | exact True.intro | exact rfl | refine And.intro ?_ ?_))), And.intro (And.intro rfl (And.intro rfl rfl)) (And.intro (And.intro rfl (And.intro rfl rfl)) True.intro)⟩
  · have q5 : ¬ lWhole l.held x ≥ 0 := by simpa using q5
    have ej : lJoined l x = x := by unfold lJoined; rw [if_neg q5]
    rw [ej] at k1
    refine ⟨_, _, l69' [x] _ (by simp) (fun y hy => by simp at hy; subst hy; exact hx), True.intro, ?_⟩
    conv => whnf
    refine ⟨by decide, by (first | omega | (dsimp only; omega) | (simp; done) | (simp; omega)), cLock x, rfl, ?_⟩
    conv => whnf
    intro z hz
    conv => whnf
    rw [wrap_small (by (first | omega | (dsimp only; omega) | (simp; done) | (simp; omega))) (by (first | omega | (dsimp only; omega) | (simp; done) | (simp; omega))), List.length_map, List.length_map] at hz
    subst hz
    refine And.intro (fun q6 => ?_) (fun q6 => ?_) <;> (conv => whnf)
    · rw [k1, if_pos q6]
      exact ⟨[3, 4], rfl, (by (repeat' (first | exact True.intro | exact rfl | refine And.intro ?_ ?_))), And.intro (And.intro rfl (And.intro rfl rfl)) (And.intro (And.intro rfl (And.intro rfl rfl)) True.intro)⟩
    rw [if_neg (by simpa using q6)] at k1
    have hb : l.held.length + l.queue.length < 40 := by simp at q6; omega
    have hc := fun H => c45 l x l.queue.length (Nat.le_refl _) h1 h2 H
    rw [show ((l.queue.length : Nat) : Int) = ((l.queue.map cLock).length : Int) by simp] at hc
    refine ⟨_, _, hc _, True.intro, ?_⟩
    conv => whnf
    have e0 : (((lAhead l x l.queue.length).map fun x => [DV.int .i64 x]).length : Int) = ((lAhead l x l.queue.length).length : Int) := by simp
    refine And.intro (fun q7 => ?_) (fun q7 => ?_) <;> (conv => whnf)
    · have q7 : decide ((((lAhead l x l.queue.length).map fun x => [DV.int .i64 x]).length : Int) > 0) = true := q7
      rw [e0] at q7
      rw [k1, if_pos q7]
      refine ⟨fun y hy => by simp at hy; subst hy; rfl, ?_⟩
      conv => whnf
      refine ⟨(List.length_map _).symm, by (first | omega | (dsimp only; omega) | (simp; done) | (simp; omega)), ?_⟩
      conv => whnf
      refine ⟨[3, 7], rfl, ?_, And.intro (And.intro rfl (And.intro rfl rfl)) (And.intro (And.intro rfl (And.intro rfl ?_)) True.intro)⟩
      · (repeat' (first | exact True.intro | exact rfl | refine And.intro ?_ ?_))
        show PV.row 0 7 (_ + _) = PV.row 0 7 (List.length (_ ++ _))
        rw [List.length_append]; rfl
      · show _ = List.map cLock (_ ++ _)
        rw [List.map_append]; rfl
    · have q7 : decide ((((lAhead l x l.queue.length).map fun x => [DV.int .i64 x]).length : Int) > 0) = false := q7
      rw [e0] at q7
      rw [k1, if_neg (by simpa using q7)]
      refine ⟨_, _, _, c63 l.held x (by omega) _, ?_⟩
      conv => whnf
      exact ⟨[7, 4], rfl, (by (repeat' (first | exact True.intro | exact rfl | refine And.intro ?_ ?_))), And.intro (And.intro rfl (And.intro rfl rfl)) (And.intro (And.intro rfl (And.intro rfl rfl)) True.intro)⟩
def pAskF (r : Locks × Int) : PV := .tuple [pLocks r.1, .d (.int .i64 r.2)]
theorem c26 (l : Locks) (x : Lock) (hs : smallLs l) (hx : smallX x) (H : List (List Blk)) : CallEq X H 26 [pLocks l, pLock x] (pAskF (lAsk l x)) [] :=
  (c26r l x hs hx H).freeze 3 (by
    change PV.tuple [fz _ 2 (rowsL (lAsk l x).1), .d _] = _
    rw [fzL]; rfl)
end Go.Proofs.Ve
