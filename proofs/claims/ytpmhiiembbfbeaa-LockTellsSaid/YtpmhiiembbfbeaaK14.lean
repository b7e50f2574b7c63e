/- The document's answer: by whom one is held up; whether locks may be. -/
import Derived.Test.YtpmhiiembbfbeaaK13
set_option maxRecDepth 100000
set_option linter.all false
namespace Go.Proofs.Ve
open Go
def ownOk (y : Lock) : Prop := y.owner = 0 ∨ y.owner = 1 ∨ y.owner = 2 ∨ y.owner = 3
theorem may_own {y : Lock} (h : rLMay y = true) : ownOk y := by
  unfold ownOk
  unfold rLMay at h
  cases h1 : (decide (y.owner < 0) || decide (y.owner > 3)) with
  | true => rw [h1] at h; simp at h
  | false => simp at h1; omega
def anyB (x : Lock) (ys : List Lock) (o : Int) : Bool := ys.any fun y => rClash y x && y.owner == o
theorem anyB_snoc {x y : Lock} {l : List Lock} {k : Nat} (h : l[k]? = some y) (pre : List Lock) (o : Int) : anyB x (pre ++ l.take (k + 1)) o = (anyB x (pre ++ l.take k) o || (rClash y x && y.owner == o)) := by
  unfold anyB
  rw [take_snoc' h, ← List.append_assoc, List.any_append]
  simp
def pB (x : Lock) (ys : List Lock) : PV := .agg [.d (.bool (anyB x ys 0)), .d (.bool (anyB x ys 1)), .d (.bool (anyB x ys 2)), .d (.bool (anyB x ys 3))]
theorem idx4 {K : Nat → Prop} {n : Int} (h : n = 0 ∨ n = 1 ∨ n = 2 ∨ n = 3) (h0 : n = 0 → K 0) (h1 : n = 1 → K 1) (h2 : n = 2 → K 2) (h3 : n = 3 → K 3) : 0 ≤ n ∧ n < 4 ∧ ∃ k : Nat, n = k ∧ K k := by
  rcases h with h | h | h | h
  · exact ⟨by omega, by omega, 0, h, h0 h⟩
  · exact ⟨by omega, by omega, 1, h, h1 h⟩
  · exact ⟨by omega, by omega, 2, h, h2 h⟩
  · exact ⟨by omega, by omega, 3, h, h3 h⟩
theorem c48 (l : Locks) (x : Lock) (at_ : Nat) (hx : l.queue[at_]? = some x) (h1 : l.held.length < 100000) (h2 : l.queue.length < 100000) (o1 : ∀ y ∈ l.held, ownOk y) (o2 : ∀ y ∈ l.queue, ownOk y) (H : List (List Blk)) :
    CallEq X H 48 [pLocks l, .d (.int .i64 at_)] (pB x (l.held ++ l.queue.take at_)) [] := by
  have hat := (List.getElem?_eq_some_iff.1 hx).1
  refine callEq_of_body X_ok rfl Try.func48 rfl ?_
  conv => whnf
  refine loopV_of (fun k : Nat => ⟨[.any, .d (.int .i64 at_), .ptr 0 0 0, .any, .ptr 0 1 0, .ptr 0 2 0, .d (.int .i64 k), .any, .any, .any, .any, .any, .any, .any, .any, .any, .any, .any, .any, .any, .any, .any, .any, .any, .any, .any, .any, .any, .any, .any, .any, .any, .any, .any, .any, .any, .any, .any, .any, .any, .any, .any, .any, .any, .any, .any, .any, .any, .any, .any, .any, .any, .any, .any, .any, .any, .any, .any, .any, .any, .any, .any], [.box [.d (encLocks l.held), .d (encLocks l.queue)], .box [.kb false, .kb false, .kb false, .kb false], .box [.d (.bool (anyB x ([] ++ l.held.take k) 0)), .d (.bool (anyB x ([] ++ l.held.take k) 1)), .d (.bool (anyB x ([] ++ l.held.take k) 2)), .d (.bool (anyB x ([] ++ l.held.take k) 3))]]⟩)
    (fun k => k ≤ l.held.length) (fun k => l.held.length - k) 0 [0, 1, 2] (Nat.zero_le _) ?_ ?_
  · refine And.intro rfl (And.intro ?_ ?_)
    all_goals (repeat' (first | exact True.intro | exact rfl | refine And.intro ?_ ?_))
    skip
  · intro k hkl
    conv => whnf
    refine And.intro (fun h_ => ?_) (fun h_ => ?_)
    · conv => whnf
      have hk' : k < l.held.length := by simpa using h_
      obtain ⟨y, hy⟩ : ∃ y, l.held[k]? = some y := ⟨_, List.getElem?_eq_getElem (by omega)⟩
      have hs := fun o => anyB_snoc (x := x) hy [] o
      refine ⟨by omega, cLock y, by simp [hy], rfl, ?_⟩
      conv => whnf
      refine ⟨by omega, cLock x, by simp [hx], rfl, ?_⟩
      conv => whnf
      refine ⟨_, _, c22 y x _, True.intro, ?_⟩
      conv => whnf
      refine And.intro (fun q1 => ?_) (fun q1 => ?_) <;> (conv => whnf)
      · simp only [q1, Bool.true_and] at hs
        refine ⟨by omega, cLock y, by simp [hy], rfl, ?_⟩
        conv => whnf
        refine idx4 (o1 y (List.mem_of_getElem? hy)) (fun ho => ?_) (fun ho => ?_) (fun ho => ?_) (fun ho => ?_)
        all_goals
          simp only [ho] at hs
          conv => whnf
          intro z hz
          conv => whnf
          rw [wrap_small (by omega) (by omega)] at hz
          subst hz
          refine ⟨k + 1, [0, 1, 2], by omega, by omega, And.intro rfl (And.intro ?_ ?_)⟩
          all_goals (repeat' (first | exact True.intro | exact rfl | refine And.intro ?_ ?_))
          all_goals (show DV.bool _ = DV.bool _; rw [hs]; simp)
      · simp only [q1, Bool.false_and, Bool.or_false] at hs
        intro z hz
        conv => whnf
        rw [wrap_small (by omega) (by omega)] at hz
        subst hz
        refine ⟨k + 1, [0, 1, 2], by omega, by omega, And.intro rfl (And.intro ?_ ?_)⟩
        all_goals (repeat' (first | exact True.intro | exact rfl | refine And.intro ?_ ?_))
        all_goals (show DV.bool _ = DV.bool _; rw [hs])
    · conv => whnf
      have hk' : k = l.held.length := by simp at h_; omega
      subst hk'
      rw [List.take_length, List.nil_append]
      refine loopV_of (fun k : Nat => ⟨[.any, .d (.int .i64 at_), .ptr 0 0 0, .any, .ptr 0 1 0, .ptr 0 2 0, .any, .any, .d (.int .i64 k), .any, .any, .any, .any, .any, .any, .any, .any, .any, .any, .any, .any, .any, .any, .any, .any, .any, .any, .any, .any, .any, .any, .any, .any, .any, .any, .any, .any, .any, .any, .any, .any, .any, .any, .any, .any, .any, .any, .any, .any, .any, .any, .any, .any, .any, .any, .any, .any, .any, .any, .any, .any, .any], [.box [.d (encLocks l.held), .d (encLocks l.queue)], .box [.kb false, .kb false, .kb false, .kb false], .box [.d (.bool (anyB x (l.held ++ l.queue.take k) 0)), .d (.bool (anyB x (l.held ++ l.queue.take k) 1)), .d (.bool (anyB x (l.held ++ l.queue.take k) 2)), .d (.bool (anyB x (l.held ++ l.queue.take k) 3))]]⟩)
        (fun k => k ≤ at_) (fun k => at_ - k) 0 [0, 1, 2] (Nat.zero_le _) ?_ ?_
      · refine And.intro rfl (And.intro ?_ ?_)
        all_goals (repeat' (first | exact True.intro | exact rfl | refine And.intro ?_ ?_))
        all_goals (show DV.bool _ = DV.bool _; simp; done)
      · intro k hkl
        conv => whnf
        refine And.intro (fun h_ => ?_) (fun h_ => ?_)
        · conv => whnf
          have hk' : k < at_ := by simpa using h_
          obtain ⟨y, hy⟩ : ∃ y, l.queue[k]? = some y := ⟨_, List.getElem?_eq_getElem (by omega)⟩
          have hs := fun o => anyB_snoc (x := x) hy l.held o
          refine ⟨by omega, cLock y, by simp [hy], rfl, ?_⟩
          conv => whnf
          refine ⟨by omega, cLock x, by simp [hx], rfl, ?_⟩
          conv => whnf
          refine ⟨_, _, c22 y x _, True.intro, ?_⟩
          conv => whnf
          refine And.intro (fun q1 => ?_) (fun q1 => ?_) <;> (conv => whnf)
          · simp only [q1, Bool.true_and] at hs
            refine ⟨by omega, cLock y, by simp [hy], rfl, ?_⟩
            conv => whnf
            refine idx4 (o2 y (List.mem_of_getElem? hy)) (fun ho => ?_) (fun ho => ?_) (fun ho => ?_) (fun ho => ?_)
            all_goals
              simp only [ho] at hs
              conv => whnf
              intro z hz
              conv => whnf
              rw [wrap_small (by omega) (by omega)] at hz
              subst hz
              refine ⟨k + 1, [0, 1, 2], by omega, by omega, And.intro rfl (And.intro ?_ ?_)⟩
              all_goals (repeat' (first | exact True.intro | exact rfl | refine And.intro ?_ ?_))
              all_goals (show DV.bool _ = DV.bool _; rw [hs]; simp)
          · simp only [q1, Bool.false_and, Bool.or_false] at hs
            intro z hz
            conv => whnf
            rw [wrap_small (by omega) (by omega)] at hz
            subst hz
            refine ⟨k + 1, [0, 1, 2], by omega, by omega, And.intro rfl (And.intro ?_ ?_)⟩
            all_goals (repeat' (first | exact True.intro | exact rfl | refine And.intro ?_ ?_))
            all_goals (show DV.bool _ = DV.bool _; rw [hs])
        · conv => whnf
          have hk' : k = at_ := by simp at h_; omega
          subst hk'
          exact ⟨[], rfl, (by (repeat' (first | exact True.intro | exact rfl | refine And.intro ?_ ?_))), True.intro⟩
/-! ### owners, in a list -/
def bitsL : List Bool → Int → List Int
  | [], _ => []
  | b :: bs, i => bif b then i :: bitsL bs (i + 1) else bitsL bs (i + 1)
theorem bitsL_len : ∀ (l : List Bool) (i : Int), (bitsL l i).length ≤ l.length
  | [], i => Nat.le_refl _
  | b :: bs, i => by
    have := bitsL_len bs (i + 1)
    cases b <;> simp [bitsL] <;> omega
def pBits (b0 b1 b2 b3 : Bool) : PV := .agg [.d (.bool b0), .d (.bool b1), .d (.bool b2), .d (.bool b3)]
theorem c47r (b0 b1 b2 b3 : Bool) (H : List (List Blk)) : CallEq X H 47 [pBits b0 b1 b2 b3] (.row 0 0 (bitsL [b0, b1, b2, b3] 0).length) [⟨3, 1, rowI (bitsL [b0, b1, b2, b3] 0)⟩] := by
  refine callEq_of_body X_ok rfl Try.func47 rfl ?_
  conv => whnf
  refine loopV_of (fun k : Nat => ⟨[.any, .ptr 0 0 0, .any, .row 0 1 (bitsL ([b0, b1, b2, b3].take k) 0).length, .d (.int .i64 k), .any, .any, .any, .any, .any, .any, .any, .any, .any, .any, .any, .any], [.box [.d (.bool b0), .d (.bool b1), .d (.bool b2), .d (.bool b3)], .row 3 1 (rowI (bitsL ([b0, b1, b2, b3].take k) 0))]⟩)
    (fun k => k ≤ 4) (fun k => 4 - k) 0 [0, 1] (Nat.zero_le _) ?_ ?_
  · refine And.intro rfl (And.intro ?_ ?_)
    all_goals (repeat' (first | exact True.intro | exact rfl | refine And.intro ?_ ?_))
  · intro k hk
    have step : ∀ (k : Nat) (b : Bool), [b0, b1, b2, b3][k]? = some b → bitsL ([b0, b1, b2, b3].take (k + 1)) 0 = bitsL ([b0, b1, b2, b3].take k) 0 ++ bif b then [(k : Int)] else [] := by
      intro k b h
      match k, h with
      | 0, h => simp at h; subst h; cases b0 <;> rfl
      | 1, h => simp at h; subst h; cases b0 <;> cases b1 <;> rfl
      | 2, h => simp at h; subst h; cases b0 <;> cases b1 <;> cases b2 <;> rfl
      | 3, h => simp at h; subst h; cases b0 <;> cases b1 <;> cases b2 <;> cases b3 <;> rfl
      | k + 4, h => simp at h
    match k, hk with
    | 4, _ =>
      conv => whnf
      refine And.intro (fun h_ => absurd h_ (by decide)) (fun h_ => ?_)
      conv => whnf
      exact ⟨[1], rfl, And.intro rfl rfl, And.intro (And.intro rfl (And.intro rfl rfl)) True.intro⟩
    | 0, _ =>
      have st := step 0 b0 rfl
      have hl : (bitsL [] 0).length ≤ 0 := bitsL_len _ _
      conv => whnf
      refine And.intro (fun h_ => ?_) (fun h_ => absurd h_ (by decide))
      conv => whnf
      refine ⟨by decide, by decide, 0, rfl, ?_⟩
      conv => whnf
      refine And.intro (fun q1 => ?_) (fun q1 => ?_) <;> (conv => whnf)
      · refine ⟨fun y hy => by simp at hy; subst hy; rfl, ?_⟩
        conv => whnf
        refine ⟨(rowI_len _).symm, by (first | omega | (dsimp only; omega) | (simp; done) | (simp; omega)), ?_⟩
        conv => whnf
        intro z hz
        conv => whnf
        subst hz
        simp only [q1, cond_true] at st
        refine ⟨0 + 1, [0, 2], by omega, by omega, And.intro rfl (And.intro ?_ ?_)⟩
        all_goals (repeat' (first | exact True.intro | exact rfl | refine And.intro ?_ ?_))
        · show PV.row 0 2 _ = PV.row 0 2 _
          simp only [q1, st]; simp
        · simp only [q1, st]; simp [rowI]
      · intro z hz
        conv => whnf
        subst hz
        simp only [q1, cond_false, List.append_nil] at st
        refine ⟨0 + 1, [0, 1], by omega, by omega, And.intro rfl (And.intro ?_ ?_)⟩
        all_goals (repeat' (first | exact True.intro | exact rfl | refine And.intro ?_ ?_))
        · show PV.row 0 1 _ = PV.row 0 1 _
          simp only [q1, st]
        · simp only [q1, st]
    | 1, _ =>
      have st := step 1 b1 rfl
      have hl : (bitsL [b0] 0).length ≤ 1 := bitsL_len _ _
      conv => whnf
      refine And.intro (fun h_ => ?_) (fun h_ => absurd h_ (by decide))
      conv => whnf
      refine ⟨by decide, by decide, 1, rfl, ?_⟩
      conv => whnf
      refine And.intro (fun q1 => ?_) (fun q1 => ?_) <;> (conv => whnf)
      · refine ⟨fun y hy => by simp at hy; subst hy; rfl, ?_⟩
        conv => whnf
        refine ⟨(rowI_len _).symm, by (first | omega | (dsimp only; omega) | (simp; done) | (simp; omega)), ?_⟩
        conv => whnf
        intro z hz
        conv => whnf
        subst hz
        simp only [q1, cond_true] at st
        refine ⟨1 + 1, [0, 2], by omega, by omega, And.intro rfl (And.intro ?_ ?_)⟩
        all_goals (repeat' (first | exact True.intro | exact rfl | refine And.intro ?_ ?_))
        · show PV.row 0 2 _ = PV.row 0 2 _
          simp only [q1, st]; simp
        · simp only [q1, st]; simp [rowI]
      · intro z hz
        conv => whnf
        subst hz
        simp only [q1, cond_false, List.append_nil] at st
        refine ⟨1 + 1, [0, 1], by omega, by omega, And.intro rfl (And.intro ?_ ?_)⟩
        all_goals (repeat' (first | exact True.intro | exact rfl | refine And.intro ?_ ?_))
        · show PV.row 0 1 _ = PV.row 0 1 _
          simp only [q1, st]
        · simp only [q1, st]
    | 2, _ =>
      have st := step 2 b2 rfl
      have hl : (bitsL [b0, b1] 0).length ≤ 2 := bitsL_len _ _
      conv => whnf
      refine And.intro (fun h_ => ?_) (fun h_ => absurd h_ (by decide))
      conv => whnf
      refine ⟨by decide, by decide, 2, rfl, ?_⟩
      conv => whnf
      refine And.intro (fun q1 => ?_) (fun q1 => ?_) <;> (conv => whnf)
      · refine ⟨fun y hy => by simp at hy; subst hy; rfl, ?_⟩
        conv => whnf
        refine ⟨(rowI_len _).symm, by (first | omega | (dsimp only; omega) | (simp; done) | (simp; omega)), ?_⟩
        conv => whnf
        intro z hz
        conv => whnf
        subst hz
        simp only [q1, cond_true] at st
        refine ⟨2 + 1, [0, 2], by omega, by omega, And.intro rfl (And.intro ?_ ?_)⟩
        all_goals (repeat' (first | exact True.intro | exact rfl | refine And.intro ?_ ?_))
        · show PV.row 0 2 _ = PV.row 0 2 _
          simp only [q1, st]; simp
        · simp only [q1, st]; simp [rowI]
      · intro z hz
        conv => whnf
        subst hz
        simp only [q1, cond_false, List.append_nil] at st
        refine ⟨2 + 1, [0, 1], by omega, by omega, And.intro rfl (And.intro ?_ ?_)⟩
        all_goals (repeat' (first | exact True.intro | exact rfl | refine And.intro ?_ ?_))
        · show PV.row 0 1 _ = PV.row 0 1 _
          simp only [q1, st]
        · simp only [q1, st]
    | 3, _ =>
      have st := step 3 b3 rfl
      have hl : (bitsL [b0, b1, b2] 0).length ≤ 3 := bitsL_len _ _
      conv => whnf
      refine And.intro (fun h_ => ?_) (fun h_ => absurd h_ (by decide))
      conv => whnf
      refine ⟨by decide, by decide, 3, rfl, ?_⟩
      conv => whnf
      refine And.intro (fun q1 => ?_) (fun q1 => ?_) <;> (conv => whnf)
      · refine ⟨fun y hy => by simp at hy; subst hy; rfl, ?_⟩
        conv => whnf
        refine ⟨(rowI_len _).symm, by (first | omega | (dsimp only; omega) | (simp; done) | (simp; omega)), ?_⟩
        conv => whnf
        intro z hz
        conv => whnf
        subst hz
        simp only [q1, cond_true] at st
        refine ⟨3 + 1, [0, 2], by omega, by omega, And.intro rfl (And.intro ?_ ?_)⟩
        all_goals (repeat' (first | exact True.intro | exact rfl | refine And.intro ?_ ?_))
        · show PV.row 0 2 _ = PV.row 0 2 _
          simp only [q1, st]; simp
        · simp only [q1, st]; simp [rowI]
      · intro z hz
        conv => whnf
        subst hz
        simp only [q1, cond_false, List.append_nil] at st
        refine ⟨3 + 1, [0, 1], by omega, by omega, And.intro rfl (And.intro ?_ ?_)⟩
        all_goals (repeat' (first | exact True.intro | exact rfl | refine And.intro ?_ ?_))
        · show PV.row 0 1 _ = PV.row 0 1 _
          simp only [q1, st]
        · simp only [q1, st]
theorem c47 (b0 b1 b2 b3 : Bool) (H : List (List Blk)) : CallEq X H 47 [pBits b0 b1 b2 b3] (.d (encI (bitsL [b0, b1, b2, b3] 0))) [] :=
  (c47r b0 b1 b2 b3 H).freeze 1 (by
    change PV.d (.sl (List.take _ (rowI _))) = _
    rw [List.take_of_length_le (by rw [rowI_len]; exact Nat.le_refl _)]; rfl)
end Go.Proofs.Ve
