/- HandTells, part 6 of 6. WHAT IS PROVED: HandTells: whatever the input, the law returns true, and the input reads as it did. No condition. -/
import Derived.Deep.Slices
import Derived.ChangeMaps5
import Derived.RowKit
import Derived.OpenShut
import Derived.Test.YtpmhiiembbfbeaaGreatRows
import Derived.WalkKit
import Derived.ProofKit
import Derived.ShutString
import Derived.ChangeOld
import Derived.Below
import Derived.SizedLaws
import Derived.Carry
import Derived.Test.YtpmhiiembbfbeaaGreatHandTellsJ1
import Derived.Test.YtpmhiiembbfbeaaGreatHandTellsJ2
import Derived.Test.YtpmhiiembbfbeaaGreatHandTellsJ3
import Derived.Test.YtpmhiiembbfbeaaGreatHandTellsJ4
import Derived.Test.YtpmhiiembbfbeaaGreatHandTellsJ5
/- Plain laws of Hold. -/
set_option maxRecDepth 100000
set_option linter.all false
namespace Go.Proofs.Ve
open Go
theorem above_tab : mAbove 3 = 1 ∧ mAbove 5 = 2 := by decide
theorem about_cases (o : Oper) : oAbout o = (pointS o.t o.key, 3) ∨ oAbout o = (pointS o.t o.key, 5) ∨ oAbout o = (spanO o, 3) ∨ oAbout o = (zeroS, 0) := by
  unfold oAbout
  split
  · exact .inl rfl
  · split
    · exact .inr (.inl rfl)
    · split
      · exact .inr (.inr (.inl rfl))
      · exact .inr (.inr (.inr rfl))
theorem may_of {o : Oper} (hc : oCheck o = true) {w : Int} (hw : 0 ≤ w ∧ w < 4) : ∀ x ∈ oLocks o w, lMay x = true ∧ x.owner = w := by
  have hc0 := hc
  unfold oCheck oKnown at hc
  simp only [Bool.and_eq_true, decide_eq_true_eq, Bool.not_eq_true', decide_eq_false_iff_not, Bool.and_eq_false_iff] at hc
  obtain ⟨⟨⟨⟨⟨hnum, ⟨⟨hk1, hk2⟩, ht1⟩, ht2⟩, hkey⟩, hhi⟩, hop⟩, hval⟩ := hc
  have ow : (decide (w < 0)) = false := by simp; omega
  have ow4 : (decide (w ≥ 4)) = false := by simp; omega
  have whole : ∀ m, mIs m = true → lMay (wholeL o w m) = true := fun m hm => by
    unfold lMay wholeL sCheck
    simp [ow, ow4, covers_self, hm]
    omega
  have hm35 : (oAbout o).2 = 0 ∨ (oAbout o).2 = 3 ∨ (oAbout o).2 = 5 := by
    unfold oAbout; repeat' split
    all_goals simp
  have one : (oAbout o).2 ≠ 0 → sEmpty (oAbout o).1 = false → lMay ⟨w, false, (oAbout o).1, (oAbout o).2⟩ = true := fun h0 he => by
    have hs : sCheck (oAbout o).1 = true := by
      have p1 : (o.key.length : Int) ≤ 16 := by omega
      have p2 : (o.hi.length : Int) ≤ 16 := by omega
      have t1 : decide (o.t ≥ 0) = true := by simp; omega
      have t2 : decide (o.t < 4) = true := by simp; omega
      have k1 : decide ((o.key.length : Int) ≤ 17) = true := by simp; omega
      have k2 : decide (((o.key ++ [(0 : UInt8)]).length : Int) ≤ 17) = true := by rw [List.length_append]; simp; omega
      have k3 : decide ((o.hi.length : Int) ≤ 17) = true := by simp; omega
      have k4 : (!o.op || (o.hi.length : Int) == 0) = true := by
        rcases hop with h | h
        · rw [h]; rfl
        · have : (o.hi.length : Int) = 0 := by omega
          rw [this]; cases o.op <;> rfl
      have point : sCheck (pointS o.t o.key) = true := by unfold sCheck pointS; dsimp only; rw [t1, t2, k1, k2]; rfl
      have span : sCheck (spanO o) = true := by unfold sCheck spanO; dsimp only; rw [t1, t2, k1, k3, k4]; rfl
      rcases about_cases o with e | e | e | e <;> rw [e] at h0 ⊢
      · exact point
      · exact point
      · exact span
      · exact absurd rfl h0
    unfold lMay
    simp only [ow, ow4, hs, he]
    rcases hm35 with h | h | h
    · exact absurd h h0
    · simp [h]
    · simp [h]
  intro x hx
  unfold oLocks at hx
  rw [hc0] at hx
  have e0 : (errI true != 0) = false := rfl
  rw [e0, Bool.false_or] at hx
  split at hx
  · cases hx
  · rename_i hn
    split at hx
    · rename_i h8
      rw [List.mem_singleton] at hx; subst hx
      refine ⟨whole _ ?_, rfl⟩
      unfold oNum at hnum
      rw [h8] at hnum
      simp at hnum
      rcases hnum with h | h <;> rw [h] <;> decide
    · rename_i h8
      have hm0 : (oAbout o).2 ≠ 0 := fun h => by
        apply hn
        simp [h]
        intro e; exact h8 (by simp [e])
      have hab : mIs (mAbove (oAbout o).2) = true := by
        rcases hm35 with h | h | h
        · exact absurd h hm0
        · rw [h]; decide
        · rw [h]; decide
      split at hx
      · rw [List.mem_singleton] at hx; subst hx
        exact ⟨whole _ hab, rfl⟩
      · rename_i he
        rcases List.mem_cons.1 hx with rfl | hx
        · exact ⟨whole _ hab, rfl⟩
        · rw [List.mem_singleton] at hx; subst hx
          exact ⟨one hm0 (by simpa using he), rfl⟩
theorem asks_bad {o : Oper} (h : oCheck o = false) (w : Int) : oLocks o w = [] := by
  unfold oLocks
  rw [h]; rfl
theorem may_asks (o : Oper) {w : Int} (hw : 0 ≤ w ∧ w < 4) : ∀ x ∈ oLocks o w, lMay x = true ∧ x.owner = w := by
  cases hc : oCheck o with
  | true => exact may_of hc hw
  | false => rw [asks_bad hc]; intro x hx; cases hx
/-- the asks' shape: one for a whole table, and one for a part -/
theorem asks_shape (o : Oper) (w : Int) : oLocks o w = [] ∨ (∃ x, oLocks o w = [x]) ∨ ∃ x y, oLocks o w = [x, y] ∧ y.whole = false := by
  unfold oLocks
  repeat' split
  · exact .inl rfl
  · exact .inr (.inl ⟨_, rfl⟩)
  · exact .inr (.inl ⟨_, rfl⟩)
  · exact .inr (.inr ⟨_, _, rfl, rfl⟩)
structure AskOk (l : Locks) (x : Lock) (r : Locks × Int) : Prop where
  ok : Ok r.1
  zero : r.2 = 0 → r.1.queue = l.queue ∧ lWaits l x.owner = false ∧ r.1.held.any (fun h => lServes h x) = true ∧ (x.whole = false → ∀ h ∈ l.held, h ∈ r.1.held)
  wait : r.2 = 110 → lWaits l x.owner = false ∧ lWaits r.1 x.owner = true
  else_ : r.2 ≠ 0 → r.2 ≠ 110 → r.1 = l ∧ (r.2 = 1 ∨ r.2 = 111)
theorem ask_told {l : Locks} (h : Ok l) {x : Lock} (hx : lMay x = true) : AskOk l x (lAsk l x) := by
  have hok := ask_ok h x
  have hc := (check_iff l).2 h
  have hj := serves_joined h hx
  have hjo := joined_ok h hx
  refine ⟨hok.1, fun h0 => ?_, fun h0 => ?_, fun h0 h1 => ?_⟩
  · unfold lAsk at h0 ⊢
    rw [hc, hx] at h0 ⊢
    simp only [Bool.not_true, Bool.false_or] at h0 ⊢
    split at h0
    · cases h0
    · rename_i hw
      have hw : lWaits l x.owner = false := by simpa using hw
      rw [hw]
      simp only [Bool.false_eq_true, if_false]
      split at h0
      · rename_i hs
        rw [if_pos hs]
        exact ⟨rfl, True.intro, hs, fun _ h hh => hh⟩
      · rename_i hs
        rw [if_neg hs]
        split at h0
        · cases h0
        · rename_i h40
          rw [if_neg h40]
          split at h0
          · cases h0
          · rename_i hah
            rw [if_neg hah]
            refine ⟨rfl, True.intro, ?_, fun hnw g hg => ?_⟩
            · rw [List.any_eq_true]
              refine ⟨lJoined l x, ?_, hj⟩
              show lJoined l x ∈ holdL l.held (lJoined l x)
              unfold holdL
              split
              · rename_i hge
                obtain ⟨_, y, hy, _⟩ := idxOf_lt (lWholeP (lJoined l x)) l.held 0 (by omega) hge
                have : (lWhole l.held (lJoined l x)).toNat < l.held.length := by
                  have := (List.getElem?_eq_some_iff.1 hy).1
                  simpa [lWhole] using this
                exact List.mem_iff_getElem.2 ⟨(lWhole l.held (lJoined l x)).toNat, by simpa using this, by simp⟩
              · exact List.mem_append_right _ (List.mem_singleton.2 rfl)
            · show g ∈ holdL l.held (lJoined l x)
              rw [hjo.2.2.2.2.2.1 hnw]
              unfold holdL
              rw [if_neg]
              · exact List.mem_append_left _ hg
              · intro hge
                obtain ⟨_, y, _, hy⟩ := idxOf_lt (lWholeP x) l.held 0 (by omega) hge
                unfold lWholeP at hy
                rw [hnw] at hy; simp at hy
  · rcases hok.2 with ⟨e, _⟩ | ⟨_, _, e⟩ | ⟨_, e, _⟩
    · rw [e] at h0; cases h0
    · refine ⟨?_, e⟩
      cases hw : lWaits l x.owner with
      | false => rfl
      | true =>
        unfold lAsk at h0
        rw [hc, hx, hw] at h0
        simp at h0
    · exact absurd h0 e
  · rcases hok.2 with ⟨e, _⟩ | ⟨e, _⟩ | ⟨_, _, e⟩
    · exact absurd e h0
    · exact absurd e h1
    · refine ⟨e, ?_⟩
      unfold lAsk at h0 h1 ⊢
      repeat' split
      all_goals simp_all
theorem waits_queue {a b : Locks} (ha : Ok a) (hb : Ok b) (h : a.queue = b.queue) (w : Int) : lWaits a w = lWaits b w := by
  rw [Bool.eq_iff_iff, waits_iff, waits_iff, h]
  exact ⟨fun q => ⟨hb, q.2⟩, fun q => ⟨ha, q.2⟩⟩
structure HoldTold (l : Locks) (w : Int) (r : Locks × Int) : Prop where
  ok : Ok r.1
  num : r.2 = 0 ∨ r.2 = 1 ∨ r.2 = 110 ∨ r.2 = 111
  wait : (r.2 == 110) = (lWaits r.1 w && !lWaits l w)
  zero : r.2 = 0 → r.1.queue = l.queue
theorem hold_told {w : Int} : ∀ (xs : List Lock) (l : Locks), Ok l → (∀ x ∈ xs, lMay x = true ∧ x.owner = w) → HoldTold l w (holdF l xs)
  | [], l, h, _ => ⟨h, .inl rfl, by show ((0 : Int) == 110) = (lWaits l w && !lWaits l w); cases lWaits l w <;> rfl, fun _ => rfl⟩
  | x :: xs, l, h, hx => by
    have A := ask_told h (hx x (List.mem_cons_self ..)).1
    have ho := (hx x (List.mem_cons_self ..)).2
    unfold holdF
    by_cases h0 : (lAsk l x).2 = 0
    · have hb : ((lAsk l x).2 != 0) = false := by simp [h0]
      rw [hb]
      have I := hold_told xs (lAsk l x).1 A.ok (fun y hy => hx y (List.mem_cons_of_mem _ hy))
      obtain ⟨q1, _, _, _⟩ := A.zero h0
      exact ⟨I.ok, I.num, by rw [← waits_queue A.ok h q1]; exact I.wait, fun e => (I.zero e).trans q1⟩
    · have hb : ((lAsk l x).2 != 0) = true := by simp [h0]
      rw [hb, if_pos rfl]
      by_cases h1 : (lAsk l x).2 = 110
      · obtain ⟨w1, w2⟩ := A.wait h1
        rw [ho] at w1 w2
        exact ⟨A.ok, .inr (.inr (.inl h1)), by rw [h1, w1, w2]; rfl, fun e => absurd e h0⟩
      · obtain ⟨e1, e2⟩ := A.else_ h0 h1
        refine ⟨A.ok, ?_, ?_, fun e => absurd e h0⟩
        · rcases e2 with e2 | e2 <;> simp [e2]
        · rw [e1]
          have : ((lAsk l x).2 == 110) = false := by simp [h1]
          rw [this]; cases lWaits l w <;> rfl
theorem ask_served {a : Locks} (h : Ok a) {x : Lock} (hx : lMay x = true) (hw : lWaits a x.owner = false) (hs : a.held.any (fun h => lServes h x) = true) : lAsk a x = (a, 0) := by
  unfold lAsk
  rw [(check_iff a).2 h, hx, hw, hs]; rfl
theorem hold_served {a : Locks} (h : Ok a) {w : Int} (hw : lWaits a w = false) : ∀ xs : List Lock, (∀ x ∈ xs, lMay x = true ∧ x.owner = w ∧ a.held.any (fun h => lServes h x) = true) → holdF a xs = (a, 0)
  | [], _ => rfl
  | x :: xs, hx => by
    obtain ⟨h1, h2, h3⟩ := hx x (List.mem_cons_self ..)
    unfold holdF
    rw [ask_served h h1 (h2 ▸ hw) h3]
    exact hold_served h hw xs (fun y hy => hx y (List.mem_cons_of_mem _ hy))
/-- Who holds what an operation needs: each ask is served; and it is held again without a change. -/
theorem hold_again {l : Locks} (h : Ok l) (o : Oper) {w : Int} (hw : 0 ≤ w ∧ w < 4) (h0 : (holdF l (oLocks o w)).2 = 0) :
    (∀ x ∈ oLocks o w, (holdF l (oLocks o w)).1.held.any (fun h => lServes h x) = true) ∧ holdF (holdF l (oLocks o w)).1 (oLocks o w) = ((holdF l (oLocks o w)).1, 0) := by
  have hm := may_asks o hw
  have T := hold_told (oLocks o w) l h hm
  have key : (∀ x ∈ oLocks o w, (holdF l (oLocks o w)).1.held.any (fun h => lServes h x) = true) ∧ (oLocks o w ≠ [] → lWaits l w = false) := by
    rcases asks_shape o w with e | ⟨x, e⟩ | ⟨x, y, e, hy⟩
    · rw [e]; exact ⟨(fun x hx => by cases hx), fun h => absurd rfl h⟩
    · rw [e] at hm h0 ⊢
      have A := ask_told h (hm x (by simp)).1
      have ho := (hm x (by simp)).2
      unfold holdF at h0 ⊢
      by_cases hz : (lAsk l x).2 = 0
      · have hb : ((lAsk l x).2 != 0) = false := by simp [hz]
        rw [hb]
        obtain ⟨_, q2, q3, _⟩ := A.zero hz
        exact ⟨fun z hz => by rw [List.mem_singleton] at hz; subst hz; exact q3, fun _ => ho ▸ q2⟩
      · have hb : ((lAsk l x).2 != 0) = true := by simp [hz]
        rw [hb, if_pos rfl] at h0
        exact absurd h0 hz
    · rw [e] at hm h0 ⊢
      have A := ask_told h (hm x (by simp)).1
      have ho := (hm x (by simp)).2
      unfold holdF at h0 ⊢
      by_cases hz : (lAsk l x).2 = 0
      · have hb : ((lAsk l x).2 != 0) = false := by simp [hz]
        rw [hb] at h0 ⊢
        simp only [Bool.false_eq_true, if_false] at h0 ⊢
        obtain ⟨_, q2, q3, _⟩ := A.zero hz
        have B := ask_told A.ok (hm y (by simp)).1
        unfold holdF at h0 ⊢
        by_cases hz2 : (lAsk (lAsk l x).1 y).2 = 0
        · have hb2 : ((lAsk (lAsk l x).1 y).2 != 0) = false := by simp [hz2]
          rw [hb2]
          simp only [Bool.false_eq_true, if_false, holdF]
          obtain ⟨_, _, p3, p4⟩ := B.zero hz2
          refine ⟨fun z hz => ?_, fun _ => ho ▸ q2⟩
          rcases List.mem_cons.1 hz with rfl | hz
          · rw [List.any_eq_true] at q3 ⊢
            obtain ⟨g, g1, g2⟩ := q3
            exact ⟨g, p4 hy g g1, g2⟩
          · rw [List.mem_singleton] at hz; subst hz; exact p3
        · have hb2 : ((lAsk (lAsk l x).1 y).2 != 0) = true := by simp [hz2]
          rw [hb2, if_pos rfl] at h0
          exact absurd h0 hz2
      · have hb : ((lAsk l x).2 != 0) = true := by simp [hz]
        rw [hb, if_pos rfl] at h0
        exact absurd h0 hz
  refine ⟨key.1, ?_⟩
  by_cases he : oLocks o w = []
  · rw [he]; rfl
  · have hq := key.2 he
    rw [← waits_queue T.ok h (T.zero h0)] at hq
    exact hold_served T.ok hq _ (fun x hx => ⟨(hm x hx).1, (hm x hx).2, key.1 x hx⟩)
end Go.Proofs.Ve

/- Plain laws of Hold: what is held is not free; who is alone. -/
set_option maxRecDepth 100000
set_option linter.all false
namespace Go.Proofs.Ve
open Go
theorem cm_lt {a b c : List UInt8} (h1 : cm a b < 0) (h2 : cm b c ≤ 0) : cm a c < 0 := by
  have h := cm_trans a b c (by omega) h2
  by_cases e : cm a c = 0
  · have := (cm_eq a c).1 e
    subst this
    have := cm_flip a b
    omega
  · omega
theorem point_less (k : List UInt8) : cm k (k ++ [0]) < 0 := by
  induction k with
  | nil => show (-1 : Int) < 0; omega
  | cons x k ih =>
    show cm (x :: k) (x :: (k ++ [0])) < 0
    rw [cm_cc, if_neg (by simp [u8]), if_neg (by simp [u8])]
    exact ih
theorem point_full (t : Int) (k : List UInt8) : sEmpty (pointS t k) = false := by
  unfold sEmpty pointS
  rw [cmpB_eq]
  have := point_less k
  have f := cm_flip k (k ++ [0])
  simp; omega
theorem meets_of {a : Span} {t : Int} {k : List UInt8} (h : sCovers a (pointS t k) = true) : a.t = t ∧ sMeets a (pointS t k) = true := by
  unfold sCovers at h
  rw [point_full, if_neg (by simp)] at h
  split at h
  · cases h
  · rename_i hn
    have hn : a.t = t ∧ cm a.lo k ≤ 0 := by
      rw [cmpB_eq] at hn
      simpa [pointS] using hn
    obtain ⟨h1, h2⟩ := hn
    have hp := point_less k
    have hin : ∀ k', cm k' k = 0 → sIn a a.t k' = true ∧ sIn (pointS t k) a.t k' = true := fun k' e => by
      obtain rfl := (cm_eq _ _).1 e
      unfold sIn
      rw [cmpB_eq, cmpB_eq, cmpB_eq, cmpB_eq]
      constructor
      · cases ho : a.op with
        | true => simp; exact h2
        | false =>
          rw [ho] at h
          have h3 : cm (k' ++ [0]) a.hi ≤ 0 := by
            rw [cmpB_eq] at h
            have h : (false || !false && decide (cm (k' ++ [0]) a.hi ≤ 0)) = true := h
            rw [Bool.false_or, Bool.not_false, Bool.true_and] at h
            exact of_decide_eq_true h
          have := cm_lt hp h3
          simp; exact ⟨h2, this⟩
      · simp only [pointS, h1, cm_self]
        have : decide (cm k' (k' ++ [0]) < 0) = true := decide_eq_true hp
        simp
        exact this
    refine ⟨h1, ?_⟩
    unfold sMeets
    dsimp only
    have fin : ∀ k', cm k' k = 0 → (!([a, pointS t k].any fun x => !sIn x a.t k')) = true := fun k' e => by
      obtain ⟨q1, q2⟩ := hin k' e
      simp [q1, q2]
    split
    · exact fin _ (cm_self k)
    · rename_i hlt
      rw [cmpB_eq] at hlt
      have : ¬ cm a.lo k < 0 := fun q => hlt (decide_eq_true q)
      exact fin _ (by omega)
theorem fits_ix : ∀ a ∈ ms, (mCovers a 3 = true ∨ mCovers a 5 = true) → mFits a 2 = false := by decide
theorem clash_point {h : Lock} {w you t m : Int} {k : List UInt8} (hm : m = 3 ∨ m = 5) (hs : lServes h ⟨w, false, pointS t k, m⟩ = true) (hy : you ≠ w) :
    lClash h ⟨you, true, ⟨t, [], [], false⟩, 2⟩ = true ∨ lClash h ⟨you, false, pointS t k, 5⟩ = true := by
  unfold lServes at hs
  split at hs
  · cases hs
  · rename_i hn
    have hn : h.owner = w ∧ h.span.t = t := by
      simp [pointS] at hn
      exact hn
    have ho : (h.owner == you) = false := by simp; rw [hn.1]; exact fun e => hy e.symm
    have ht : (h.span.t != t) = false := by simp [hn.2]
    split at hs
    · rename_i hw
      left
      have hmc : mCovers h.mode m = true := hs
      have h2 : mFits h.mode 2 = false := by
        refine fits_ix _ (mIs_mem (covers_is hmc).1) ?_
        rcases hm with rfl | rfl
        · exact .inl hmc
        · exact .inr hmc
      unfold lClash
      simp [ho, ht, hw, h2]
    · rename_i hw
      right
      simp only [Bool.and_eq_true] at hs
      obtain ⟨q1, q2⟩ := meets_of hs.1
      unfold lClash
      have hw : h.whole = false := by simpa using hw
      have ht' : (h.span.t != (pointS t k).t) = false := ht
      simp [ho, ht', hw, q2]
theorem not_free {a : Locks} {w you t m : Int} {key val : List UInt8} {g : Bool} (hm : m = 3 ∨ m = 5) (hs : a.held.any (fun h => lServes h ⟨w, false, pointS t key, m⟩) = true) (hy : you ≠ w) : lFree a you [⟨t, key, g, val⟩] = false := by
  rw [List.any_eq_true] at hs
  obtain ⟨h, hh, hs⟩ := hs
  have : ((needL you [⟨t, key, g, val⟩]).any fun x => a.held.any fun y => lClash y x) = true := by
    rw [List.any_eq_true]
    rcases clash_point hm hs hy with e | e
    · exact ⟨_, List.mem_cons_self .., List.any_eq_true.2 ⟨h, hh, e⟩⟩
    · exact ⟨_, List.mem_cons_of_mem _ (List.mem_cons_self ..), List.any_eq_true.2 ⟨h, hh, e⟩⟩
  unfold lFree
  rw [this]; simp
theorem asks_taken {o : Oper} {w : Int} (hc : oCheck o = true) (hk : o.kind = 2 ∨ o.kind = 1) : ∃ x m, (m = 3 ∨ m = 5) ∧ oLocks o w = [x, ⟨w, false, pointS o.t o.key, m⟩] := by
  have hp := point_full o.t o.key
  rcases hk with hk | hk
  · have ha : oAbout o = (pointS o.t o.key, 5) := by unfold oAbout; simp [hk]
    refine ⟨wholeL o w (mAbove 5), 5, .inr rfl, ?_⟩
    unfold oLocks
    rw [hc, ha]
    dsimp only
    rw [hp, if_neg (by simp [errI]), if_neg (by simp [hk]), if_neg (by simp)]
  · have ha : oAbout o = (pointS o.t o.key, 3) := by unfold oAbout; simp [hk]
    refine ⟨wholeL o w (mAbove 3), 3, .inl rfl, ?_⟩
    unfold oLocks
    rw [hc, ha]
    dsimp only
    rw [hp, if_neg (by simp [errI]), if_neg (by simp [hk]), if_neg (by simp)]
/-! ### alone -/
structure Alone (l : Locks) (w : Int) (n : Nat) : Prop where
  ok : Ok l
  queue : l.queue = []
  own : ∀ y ∈ l.held, y.owner = w
  len : l.held.length ≤ n
theorem alone_ask {l : Locks} {w : Int} {n : Nat} (h : Alone l w n) (hn : n < 40) {x : Lock} (hx : lMay x = true) (ho : x.owner = w) : (lAsk l x).2 = 0 ∧ Alone (lAsk l x).1 w (n + 1) := by
  have A := ask_told h.ok hx
  have hw : lWaits l x.owner = false := by
    cases hw : lWaits l x.owner with
    | false => rfl
    | true =>
      obtain ⟨_, y, hy, _⟩ := (waits_iff l x.owner).1 hw
      rw [h.queue] at hy; cases hy
  have hj := joined_ok h.ok hx
  have hlt := h.len
  have key : (lAsk l x).2 = 0 ∧ ((lAsk l x).1 = l ∨ (lAsk l x).1 = ⟨holdL l.held (lJoined l x), l.queue⟩) := by
    unfold lAsk
    rw [(check_iff l).2 h.ok, hx, hw]
    simp only [Bool.not_true, Bool.false_or, Bool.false_eq_true, if_false]
    split
    · exact ⟨rfl, .inl rfl⟩
    · have h40 : decide ((l.held.length : Int) + l.queue.length ≥ 40) = false := by rw [h.queue]; simp; omega
      rw [h40, ahead_all, h.queue]
      have : ((l.held ++ []).any fun z => lClash z (lJoined l x)) = false := by
        rw [List.any_eq_false]
        intro z hz hcl
        rw [List.append_nil] at hz
        have := clash_owner hcl
        rw [h.own z hz, hj.2.2.1, ho] at this
        exact this rfl
      rw [this]
      exact ⟨rfl, .inr rfl⟩
  refine ⟨key.1, A.ok, (A.zero key.1).1.trans h.queue, fun y hy => ?_, ?_⟩
  · rcases key.2 with e | e
    · rw [e] at hy; exact h.own y hy
    · rw [e] at hy
      rcases hold_mem hy with rfl | hy
      · exact hj.2.2.1.trans ho
      · exact h.own y hy
  · rcases key.2 with e | e
    · rw [e]; omega
    · rw [e]
      have := hold_len l.held (lJoined l x)
      show (holdL l.held (lJoined l x)).length ≤ n + 1
      omega
theorem alone_hold {w : Int} : ∀ (xs : List Lock) (l : Locks) (n : Nat), Alone l w n → n + xs.length ≤ 40 → (∀ x ∈ xs, lMay x = true ∧ x.owner = w) → (holdF l xs).2 = 0 ∧ Alone (holdF l xs).1 w (n + xs.length)
  | [], l, n, h, _, _ => ⟨rfl, h⟩
  | x :: xs, l, n, h, hn, hx => by
    simp only [List.length_cons] at hn ⊢
    obtain ⟨h1, h2⟩ := alone_ask h (by omega) (hx x (List.mem_cons_self ..)).1 (hx x (List.mem_cons_self ..)).2
    unfold holdF
    have hb : ((lAsk l x).2 != 0) = false := by simp [h1]
    rw [hb]
    have := alone_hold xs (lAsk l x).1 (n + 1) h2 (by omega) (fun y hy => hx y (List.mem_cons_of_mem _ hy))
    rw [show n + (xs.length + 1) = n + 1 + xs.length by omega]
    exact this
theorem alone_free {l : Locks} {w : Int} {n : Nat} (h : Alone l w n) (ws : List Wr) : lFree l w ws = true := by
  unfold lFree
  rw [(check_iff l).2 h.ok]
  have own : ∀ x ∈ needL w ws, x.owner = w := by
    induction ws with
    | nil => intro x hx; cases hx
    | cons y ws ih =>
      intro x hx
      rcases List.mem_cons.1 hx with rfl | hx
      · rfl
      · rcases List.mem_cons.1 hx with rfl | hx
        · rfl
        · exact ih x hx
  have : ((needL w ws).any fun x => l.held.any fun y => lClash y x) = false := by
    rw [List.any_eq_false]
    intro x hx hc
    obtain ⟨y, hy, hcl⟩ := List.any_eq_true.1 hc
    have := clash_owner hcl
    rw [h.own y hy, own x hx] at this
    exact this rfl
  rw [this]; rfl
theorem alone_nil (w : Int) : Alone ⟨[], []⟩ w 0 := ⟨ok_empty, rfl, (fun y hy => by cases hy), Nat.le_refl _⟩
end Go.Proofs.Ve

/- The document's Hold, Break and Free. -/
set_option maxRecDepth 100000
set_option maxHeartbeats 8000000
set_option linter.all false
namespace Go.Proofs.Ve
open Go
/-! ### what an operation needs -/
theorem glocks_eq (o : Oper) (w : Int) : gLocks o w = oLocks o w := by
  unfold gLocks oLocks
  rw [ocheck_eq]
  obtain ⟨k, t, key, hi, op, val, n⟩ := o
  cases hc : oCheck ⟨k, t, key, hi, op, val, n⟩ with
  | false => rfl
  | true =>
    have hn : ∀ t key, sEmpty (pointS t key) = false := fun t key => point_full t key
    have e3 : mAbove 3 = 1 := rfl
    have e5 : mAbove 5 = 2 := rfl
    unfold oAbout
    dsimp only
    by_cases h1 : k = 1
    · subst h1; simp [errI, hn, e3, wholeL]
    · by_cases h2 : k = 2
      · subst h2; simp [errI, hn, e5, wholeL]
      · by_cases h3 : k = 3
        · subst h3; simp [errI, hn, e5, wholeL]
        · by_cases h4 : k = 4
          · subst h4; simp [errI, hn, e5, wholeL]
          · by_cases h5 : k = 5
            · subst h5
              simp only [spanO, wholeL, errI, empty_eq]
              simp [e3]
              rfl
            · by_cases h8 : k = 8
              · subst h8; simp [errI, wholeL]
              · simp [errI, h1, h2, h3, h4, h5, h8]
/-! ### Hold -/
theorem d_hold16 (l : Locks) (w : Int) (o : Oper) (ho : smallO o) (hs : smallLs l) (hl : l.held.length < 30000) (hq : l.queue.length < 30000) (H : List (List Blk)) : CallEq X H 9 [pLocks l, .d (.int .i64 w), pOper o] (pHold (holdF l (oLocks o w))) [] := by
  have h22 := fun H => d_olocks o w ho H
  rw [glocks_eq] at h22
  have hsm := oLocks_small ho w
  have hln := oLocks_len o w
  generalize oLocks o w = xs at h22 hsm hln ⊢
  refine callEq_of_body X_ok rfl Tryz.func9 rfl ?_
  conv => whnf
  refine ⟨_, _, d_copy l hs _, True.intro, ?_⟩
  conv => whnf
  refine ⟨_, _, h22 _, True.intro, ?_⟩
  conv => whnf
  refine loopV_of (fun k : Nat => ⟨[.any, .any, .any, .any, .any, .any, .ptr 0 0 0, .any, .ptr 0 1 0, .d (encLocks xs), .d (.int .i64 k), .any, .any, .any, .any, .any, .any, .any, .any, .any, .any, .any, .any, .any, .any, .any, .any, .any, .any, .any, .any, .any, .any, .any, .any, .any, .any, .any, .any], [.box [.nils, .nils], bLocks (aft l (xs.take k))]⟩)
    (fun k => k ≤ xs.length ∧ holdF l xs = holdF (aft l (xs.take k)) (xs.drop k)) (fun k => xs.length - k) 0 [2, 3] ⟨Nat.zero_le _, rfl⟩ ?_ ?_
  · refine And.intro rfl (And.intro ?_ ?_)
    all_goals (repeat' (first | exact True.intro | exact rfl | refine And.intro ?_ ?_))
  · rintro k ⟨hk, hI⟩
    conv => whnf
    refine And.intro (fun h_ => ?_) (fun h_ => ?_)
    · conv => whnf
      have hk' : k < xs.length := by simpa using h_
      obtain ⟨x, hx⟩ : ∃ x, xs[k]? = some x := ⟨_, List.getElem?_eq_getElem hk'⟩
      have ha := aft_snoc (l := l) hx
      have hst := holdF_step (l := aft l (xs.take k)) hx
      rw [hst, ← ha] at hI
      have hsa := aft_small hs (xs.take k)
      have hb : (aft l (xs.take k)).held.length < 99999 ∧ (aft l (xs.take k)).queue.length < 99999 := by
        cases hc : lCheck l with
        | false => rw [aft_bad hc]; exact ⟨by omega, by omega⟩
        | true => have := (aft_ok (xs.take k) ((check_iff l).1 hc)).size; exact ⟨by omega, by omega⟩
      have hd := fun H => d_ask (aft l (xs.take k)) x hsa hb.1 hb.2 (hsm x (List.mem_of_getElem? hx)) H
      rw [← ask_doc] at hd
      unfold ansA at hd
      refine ⟨by omega, cLock x, by simp [hx], rfl, ?_⟩
      conv => whnf
      generalize lAsk (aft l (xs.take k)) x = r at ha hI hd ⊢
      refine ⟨_, _, hd _, True.intro, ?_⟩
      conv => whnf
      refine And.intro (fun h => ?_) (fun h => ?_) <;> (conv => whnf)
      · rw [h] at hI
        refine ⟨[], rfl, ?_, True.intro⟩
        rw [hI]
        (repeat' (first | exact True.intro | exact rfl | refine And.intro ?_ ?_))
      · rw [h] at hI
        intro z hz
        conv => whnf
        rw [wrap_small (by omega) (by omega)] at hz
        subst hz
        refine ⟨k + 1, [0, 1], ⟨hk', hI⟩, by omega, And.intro rfl (And.intro ?_ ?_)⟩
        all_goals (try rw [ha])
        all_goals (repeat' (first | exact True.intro | exact rfl | refine And.intro ?_ ?_))
    · conv => whnf
      have hk' : k = xs.length := by simp at h_; omega
      subst hk'
      rw [List.drop_length] at hI
      refine ⟨[], rfl, ?_, True.intro⟩
      rw [hI]
      (repeat' (first | exact True.intro | exact rfl | refine And.intro ?_ ?_))
end Go.Proofs.Ve

/- The document's Break and Free. -/
set_option maxRecDepth 100000
set_option maxHeartbeats 8000000
set_option linter.all false
namespace Go.Proofs.Ve
open Go
theorem d_breakR (l : Locks) (s : Nat → Int) (hs0 : smallLs l) (H : List (List Blk)) : CallEq X H 11 [pLocks l, pSt s] (.tuple [pLocks (brk s 4 l []).1, .row 0 0 (brk s 4 l []).2.length]) [⟨3, 1, rowI (brk s 4 l []).2⟩] := by
  have h21 := d_copy l hs0
  generalize hR : brk s 4 l [] = R
  refine callEq_of_body X_ok rfl Tryz.func11 rfl ?_
  conv => whnf
  refine ⟨_, _, h21 _, True.intro, ?_⟩
  conv => whnf
  refine loopV_of (fun i : Nat × Locks × (Nat → Bool) × List Int => ⟨[.any, .any, .any, .ptr 0 0 0, .ptr 0 1 0, .any, .ptr 0 2 0, .row 0 3 i.2.2.2.length, .d (.int .i64 i.1), .any, .any, .any, .any, .any, .any, .any, .any, .any, .any, .any, .any, .any, .any, .any, .any, .any, .any, .any, .any, .any, .any, .any, .any, .any, .any, .any, .any, .any, .any, .any, .any, .any, .any], [bSt s, .box [.nils, .nils], bLocks i.2.1, .row 3 1 (rowI i.2.2.2)]⟩)
    (fun i => i.1 ≤ 4 ∧ smallLs i.2.1 ∧ cntG i.2.2.1 = i.1 ∧ Gone i.2.1 i.2.2.1 ∧ i.2.2.2.length = i.1 ∧ brk s (4 - i.1) i.2.1 i.2.2.2 = R) (fun i => 4 - i.1) (0, l, (fun _ => false), []) [1, 2, 3, 100] ⟨Nat.zero_le _, hs0, rfl, (fun x hx hg => by cases hg), rfl, hR⟩ ?_ ?_
  · refine And.intro rfl (And.intro ?_ ?_)
    all_goals (repeat' (first | exact True.intro | exact rfl | refine And.intro ?_ ?_))
  · rintro ⟨i, l, g, G⟩ ⟨hi, hs, hc, hG, hn, hB⟩
    dsimp only at hi hs hc hG hn hB
    clear h21 hs0 hR
    have hlen := edgesL_len l
    have e1 := fun H => c34 l hs.1 hs.2.1 H
    have v1 := fun H => c31 (edgesL l) s (by omega) H
    rw [← stuck_eq, ← victim_eq] at v1
    have hin := stuck_in4 (waysM (edgesL l))
    have hng : ∀ v : Nat, v < 4 → (v : Int) ∈ stuckM (waysM (edgesL l)) → Ok l ∧ g v = false := fun v hv h => stuck_not_gone hG hv h
    have h4 : i = 4 → stuckM (waysM (edgesL l)) = [] := fun h => gone_stuck hG (by omega)
    have hB1 : brk s (4 - i) l G = if i = 4 then (l, G) else match stuckM (waysM (edgesL l)) with | [] => (l, G) | b :: S => brk s (4 - (i + 1)) (lDrop l (maxF s b S)).1 (G ++ [maxF s b S]) := by
      split
      · rename_i h; subst h; rfl
      · rw [show 4 - i = (4 - (i + 1)) + 1 by omega]; rfl
    rw [hB1] at hB
    clear hB1
    generalize stuckM (waysM (edgesL l)) = S at v1 hin hng h4 hB
    conv => whnf
    refine And.intro (fun _ => ?_) (fun q => ?_)
    rotate_left
    · exfalso; simp at q; omega
    conv => whnf
    refine ⟨_, _, e1 _, True.intro, ?_⟩
    conv => whnf
    cases S with
    | nil =>
      have v1 : ∀ H, CallEq X H 27 [.d (encE (edgesL l)), pSt s] (.tuple [.d (.int .i64 0), .d (.bool false)]) [] := v1
      obtain rfl : (l, G) = R := by rw [← hB]; split <;> rfl
      refine ⟨_, _, v1 _, True.intro, ?_⟩
      conv => whnf
      refine And.intro (fun _ => ?_) (fun q => absurd q (by decide))
      conv => whnf
      refine ⟨[3], rfl, ?_, ?_⟩
      all_goals (repeat' (first | exact True.intro | exact rfl | refine And.intro ?_ ?_))
    | cons b S =>
      have hi4 : i ≠ 4 := fun h => by cases h4 h
      have v1 : ∀ H, CallEq X H 27 [.d (encE (edgesL l)), pSt s] (.tuple [.d (.int .i64 (maxF s b S)), .d (.bool true)]) [] := v1
      have hvm := max_mem s S b
      rw [if_neg hi4] at hB
      dsimp only at hB
      generalize maxF s b S = v at v1 hvm hB
      obtain ⟨n, hn4, rfl⟩ : ∃ n : Nat, n < 4 ∧ v = n := ⟨v.toNat, by have := hin v hvm; unfold in4 at this; omega, by have := hin v hvm; unfold in4 at this; omega⟩
      obtain ⟨hok, hgn⟩ := hng n hn4 hvm
      obtain ⟨ok2, g2⟩ := gone_step hok hG hn4
      have hsz := hok.size
      have d1 := fun H => d_drop l (n : Int) hs (by omega) (by omega) H
      have hcs := cntG_set hn4 hgn
      have sm := ok_small ok2
      rw [← drop_doc] at d1
      unfold ansD at d1
      generalize (lDrop l (n : Int)).1 = L2 at d1 ok2 g2 sm hB
      generalize (lDrop l (n : Int)).2 = G2 at d1
      refine ⟨_, _, v1 _, True.intro, ?_⟩
      conv => whnf
      refine And.intro (fun q => absurd q (by decide)) (fun _ => ?_)
      conv => whnf
      refine ⟨_, _, d1 _, True.intro, ?_⟩
      conv => whnf
      refine ⟨fun y hy => by simp at hy; subst hy; rfl, ?_⟩
      conv => whnf
      refine ⟨(rowI_len _).symm, by (first | (simp; omega) | (first | omega | (dsimp only; omega) | (simp; done) | (simp; omega))), ?_⟩
      conv => whnf
      intro z hz
      conv => whnf
      rw [wrap_small (by omega) (by omega)] at hz
      subst hz
      refine ⟨(i + 1, L2, _, G ++ [(n : Int)]), [0, 1, 2, 5], ⟨by show i + 1 ≤ 4; omega, sm, by show cntG _ = i + 1; rw [← hc]; exact hcs, g2, by show (G ++ [(n : Int)]).length = i + 1; simp [hn], hB⟩, by show 4 - (i + 1) < 4 - i; omega, And.intro rfl (And.intro ?_ ?_)⟩
      all_goals (repeat' (first | exact True.intro | exact rfl | refine And.intro ?_ ?_))
      · show PV.row 0 5 (G.length + 1) = PV.row 0 5 (G ++ [(n : Int)]).length
        rw [List.length_append]; rfl
      · exact (rowI_snoc G (n : Int)).symm
theorem d_break (l : Locks) (s : Nat → Int) (hs : smallLs l) (H : List (List Blk)) : CallEq X H 11 [pLocks l, pSt s] (pBrk (brk s 4 l [])) [] :=
  (d_breakR l s hs H).freeze 3 (by
    change PV.tuple [pLocks (brk s 4 l []).1, PV.d (.sl ((rowI (brk s 4 l []).2).take (brk s 4 l []).2.length))] = _
    rw [List.take_of_length_le (by rw [rowI_len]; exact Nat.le_refl _)]; rfl)
end Go.Proofs.Ve

/- The document's Free. -/
set_option maxRecDepth 100000
set_option maxHeartbeats 8000000
set_option linter.all false
namespace Go.Proofs.Ve
open Go
def wWhole (w : Int) (x : Wr) : Lock := ⟨w, true, ⟨x.t, [], [], false⟩, 2⟩
def wOne (w : Int) (x : Wr) : Lock := ⟨w, false, pointS x.t x.key, 5⟩
def wHit (w : Int) (x : Wr) (y : Lock) : Bool := rClash y (wWhole w x) || rClash y (wOne w x)
def gFree (l : Locks) (w : Int) (ws : List Wr) : Bool := rCheck l && !(ws.any fun x => l.held.any (wHit w x))
theorem any_or2 {α : Type} (p q : α → Bool) : ∀ l : List α, (l.any fun x => p x || q x) = (l.any p || l.any q)
  | [] => rfl
  | x :: xs => by
    rw [List.any_cons, List.any_cons, List.any_cons, any_or2 p q xs]
    cases p x <;> cases q x <;> cases xs.any p <;> cases xs.any q <;> rfl
theorem gfree_eq (l : Locks) (w : Int) (ws : List Wr) : gFree l w ws = lFree l w ws := by
  unfold gFree lFree
  rw [lcheck_eq]
  congr 1
  have e : (fun x : Lock => l.held.any fun y => lClash y x) = fun x => l.held.any fun y => rClash y x := by funext x; congr 1; funext y; exact clash_eq y x
  rw [e]
  congr 1
  induction ws with
  | nil => rfl
  | cons x xs ih =>
    rw [List.any_cons, needL, List.any_cons, List.any_cons, ih, ← Bool.or_assoc]
    congr 1
    exact any_or2 _ _ _
theorem d_free (l : Locks) (w : Int) (ws : List Wr) (hs : smallLs l) (hw : ws.length < 10000) (hk : ∀ x ∈ ws, x.key.length ≤ 1000000) (H : List (List Blk)) : CallEq X H 15 [pLocks l, .d (.int .i64 w), .d (encW ws)] (.d (.bool (gFree l w ws))) [] := by
  have h20 := fun H => c20 l hs.1 hs.2.1 H
  unfold gFree
  generalize rCheck l = ck at h20 ⊢
  refine callEq_of_body X_ok rfl Tryz.func15 rfl ?_
  conv => whnf
  refine ⟨_, _, h20 _, True.intro, ?_⟩
  conv => whnf
  refine And.intro (fun q1 => ?_) (fun q1 => ?_) <;> (conv => whnf)
  · have q1 : ck = false := by simpa using q1
    subst q1
    refine ⟨[], rfl, ?_, True.intro⟩
    (repeat' (first | exact True.intro | exact rfl | refine And.intro ?_ ?_))
  · have q1 : ck = true := by simpa using q1
    subst q1
    refine loopV_of (fun k : Nat => ⟨[.any, .d (.int .i64 w), .d (encW ws), .ptr 0 0 0, .any, .any, .any, .any, .d (.int .i64 k), .any, .any, .any, .any, .any, .any, .any, .any, .any, .any, .any, .any, .any, .any, .any, .any, .any, .any, .any, .any, .any, .any, .any, .any, .any, .any, .any, .any, .any, .any, .any, .any, .any, .any, .any, .any, .any, .any, .any, .any, .any, .any, .any, .any, .any, .any, .any, .any, .any, .any, .any, .any, .any, .any, .any, .any, .any, .any, .any, .any, .any], [bLocks l]⟩)
      (fun k => k ≤ ws.length ∧ (ws.any fun x => l.held.any (wHit w x)) = ((ws.drop k).any fun x => l.held.any (wHit w x))) (fun k => ws.length - k) 0 [0] ⟨Nat.zero_le _, rfl⟩ ?_ ?_
    · refine And.intro rfl (And.intro ?_ ?_)
      all_goals (repeat' (first | exact True.intro | exact rfl | refine And.intro ?_ ?_))
    · rintro k ⟨hk2, hidx⟩
      conv => whnf
      refine And.intro (fun h_ => ?_) (fun h_ => ?_)
      · conv => whnf
        have hk' : k < ws.length := by simpa using h_
        obtain ⟨x, hx⟩ : ∃ x, ws[k]? = some x := ⟨_, List.getElem?_eq_getElem hk'⟩
        have hst := any_at (p := fun x => l.held.any (wHit w x)) hx
        have hp := fun H => d_point x.t x.key (hk x (List.mem_of_getElem? hx)) H
        repeat' (first
          | (refine ⟨by omega, cWr x, by simp [hx], rfl, ?_⟩; conv => whnf)
          | (refine ⟨_, _, hp _, True.intro, ?_⟩; conv => whnf)
          | fail)
        refine loopV_of (fun j : Nat => ⟨[.any, .d (.int .i64 w), .d (encW ws), .ptr 0 0 0, .any, .any, .any, .any, .d (.int .i64 k), .ptr 0 1 0, .ptr 0 2 0, .d (.int .i64 j), .any, .any, .any, .any, .any, .any, .any, .any, .any, .any, .any, .any, .any, .any, .any, .any, .any, .any, .any, .any, .any, .any, .any, .any, .any, .any, .any, .any, .any, .any, .any, .any, .any, .any, .any, .any, .any, .any, .any, .any, .any, .any, .any, .any, .any, .any, .any, .any, .any, .any, .any, .any, .any, .any, .any, .any, .any, .any], [bLocks l, bLock (wWhole w x), bLock (wOne w x)]⟩)
          (fun j => j ≤ l.held.length ∧ l.held.any (wHit w x) = (l.held.drop j).any (wHit w x)) (fun j => l.held.length - j) 0 [0, 1, 2] ⟨Nat.zero_le _, rfl⟩ ?_ ?_
        · refine And.intro rfl (And.intro ?_ ?_)
          all_goals (repeat' (first | exact True.intro | exact rfl | refine And.intro ?_ ?_))
        · rintro j ⟨hj, hjdx⟩
          conv => whnf
          refine And.intro (fun h2_ => ?_) (fun h2_ => ?_)
          · conv => whnf
            have hj' : j < l.held.length := by simpa using h2_
            obtain ⟨y, hy⟩ : ∃ y, l.held[j]? = some y := ⟨_, List.getElem?_eq_getElem hj'⟩
            have hsj := any_at (p := wHit w x) hy
            have c1 := fun H => c22 y (wWhole w x) H
            have c2 := fun H => c22 y (wOne w x) H
            have yes : wHit w x y = true → DV.bool false = .bool (true && !(ws.any fun x => l.held.any (wHit w x))) := fun h => by rw [hidx, hst, hjdx, hsj, h]; rfl
            have no : wHit w x y = false → l.held.any (wHit w x) = (l.held.drop (j + 1)).any (wHit w x) := fun h => by rw [hjdx, hsj, h]; rfl
            unfold wHit at yes no
            have hl := hs.1
            repeat' (first
              | (refine And.intro (fun h3 => ?_) (fun h3 => ?_) <;> (conv => whnf))
              | (refine ⟨by omega, cLock y, by simp [hy], rfl, ?_⟩; conv => whnf)
              | (refine ⟨_, _, c1 _, True.intro, ?_⟩; conv => whnf)
              | (refine ⟨_, _, c2 _, True.intro, ?_⟩; conv => whnf)
              | (refine ⟨[], rfl, yes (by simp_all), True.intro⟩; done)
              | (intro z hz; conv => whnf
                 rw [wrap_small (by omega) (by omega)] at hz
                 subst hz
                 refine ⟨j + 1, [0, 1, 2], ⟨by omega, no (by simp_all)⟩, by omega, And.intro rfl (And.intro ?_ ?_)⟩
                 all_goals (repeat' (first | exact True.intro | exact rfl | refine And.intro ?_ ?_))
                 done)
              | fail)
          · conv => whnf
            have hj' : j = l.held.length := by simp at h2_; omega
            have hno : l.held.any (wHit w x) = false := by rw [hjdx, hj', List.drop_length]; rfl
            intro z hz
            conv => whnf
            rw [wrap_small (by omega) (by omega)] at hz
            subst hz
            refine ⟨k + 1, [0], ⟨by omega, by rw [hidx, hst, hno]; rfl⟩, by omega, And.intro rfl (And.intro ?_ ?_)⟩
            all_goals (repeat' (first | exact True.intro | exact rfl | refine And.intro ?_ ?_))
      · conv => whnf
        have hk' : k = ws.length := by simp at h_; omega
        refine ⟨[], rfl, ?_, True.intro⟩
        show DV.bool true = .bool (true && !(ws.any fun x => l.held.any (wHit w x)))
        rw [hidx, hk', List.drop_length]; rfl
end Go.Proofs.Ve

/- HandTells: its body tells true. -/
set_option maxRecDepth 100000
set_option maxHeartbeats 8000000
set_option linter.all false
namespace Go.Proofs.Ve
open Go
theorem oSmall_small {o : Oper} (h : oSmall o = true) : smallO o := by
  unfold oSmall at h
  simp only [Bool.and_eq_true, decide_eq_true_eq] at h
  exact ⟨by omega, by omega, by omega⟩
theorem few_len {l : Locks} (h : few l = true) : l.held.length ≤ 60 ∧ l.queue.length ≤ 60 := by
  unfold few at h
  split at h
  · cases h
  · rename_i h1
    simp at h1
    omega
theorem wlong_all : ∀ {ws : List Wr}, wNoLong ws = true → ∀ x ∈ ws, x.key.length ≤ 100
  | x :: xs, h, y, hy => by
    unfold wNoLong at h
    cases hx : wLong x with
    | true => rw [hx] at h; cases h
    | false =>
      rw [hx] at h
      rcases List.mem_cons.1 hy with rfl | hy
      · unfold wLong at hx
        simp at hx
        omega
      · exact wlong_all h y hy
theorem wfew_small {ws : List Wr} (h : wFew ws = true) : ws.length ≤ 30 ∧ ∀ x ∈ ws, x.key.length ≤ 100 := by
  unfold wFew at h
  split at h
  · cases h
  · rename_i h1
    simp at h1
    exact ⟨by omega, wlong_all h⟩
theorem holdF_small : ∀ (xs : List Lock) {l : Locks}, smallLs l → smallLs (holdF l xs).1
  | [], l, h => h
  | x :: xs, l, h => by
    have h1 : smallLs (lAsk l x).1 := aft_small h [x]
    unfold holdF
    split
    · exact h1
    · exact holdF_small xs h1
theorem d_law (l : Locks) (w : Int) (o : Oper) (ws : List Wr) (s : Nat → Int) (H : List (List Blk)) : CallEq X H 3 [pLocks l, .d (.int .i64 w), pOper o, .d (encW ws), pSt s] (.d (.bool true)) [] := by
  have h14 := fun H => c14 l H
  have h38 := fun H => c38 o H
  have hfw := fun H => d_few ws H
  have h37 := fun H => c37 H
  cases hf : few l with
  | false =>
    rw [hf] at h14
    refine callEq_of_body X_ok rfl Tryz.func3 rfl ?_
    conv => whnf
    repeat' (first
      | (refine And.intro (fun h_ => ?_) (fun h_ => ?_) <;> (conv => whnf))
      | (refine ⟨_, _, h37 _, (by first | exact True.intro | exact And.intro rfl flat_nil), ?_⟩; conv => whnf)
      | (refine ⟨_, _, h14 _, (by first | exact True.intro | exact And.intro rfl flat_nil), ?_⟩; conv => whnf)
      | (intro z_ hz_; conv => whnf)
      | (refine ⟨[], rfl, ?_, True.intro⟩; (conv => whnf); (first | done | ((first | exact rfl | (exfalso; simp at h_; done)); done)))
      | fail)
    all_goals simp_all
  | true =>
    rw [hf] at h14
    have hs := few_small hf
    have hln := few_len hf
    cases ho : oSmall o with
    | false =>
      rw [ho] at h38
      refine callEq_of_body X_ok rfl Tryz.func3 rfl ?_
      conv => whnf
      repeat' (first
        | (refine And.intro (fun h_ => ?_) (fun h_ => ?_) <;> (conv => whnf))
        | (refine ⟨_, _, h37 _, (by first | exact True.intro | exact And.intro rfl flat_nil), ?_⟩; conv => whnf)
        | (refine ⟨_, _, h14 _, (by first | exact True.intro | exact And.intro rfl flat_nil), ?_⟩; conv => whnf)
        | (refine ⟨_, _, h38 _, (by first | exact True.intro | exact And.intro rfl flat_nil), ?_⟩; conv => whnf)
        | (intro z_ hz_; conv => whnf)
        | (refine ⟨[], rfl, ?_, True.intro⟩; (conv => whnf); (first | done | ((first | exact rfl | (exfalso; simp at h_; done)); done)))
        | fail)
      all_goals simp_all
    | true =>
      rw [ho] at h38
      cases hw : wFew ws with
      | false =>
        rw [hw] at hfw
        refine callEq_of_body X_ok rfl Tryz.func3 rfl ?_
        conv => whnf
        repeat' (first
          | (refine And.intro (fun h_ => ?_) (fun h_ => ?_) <;> (conv => whnf))
          | (refine ⟨_, _, h37 _, (by first | exact True.intro | exact And.intro rfl flat_nil), ?_⟩; conv => whnf)
          | (refine ⟨_, _, h14 _, (by first | exact True.intro | exact And.intro rfl flat_nil), ?_⟩; conv => whnf)
          | (refine ⟨_, _, h38 _, (by first | exact True.intro | exact And.intro rfl flat_nil), ?_⟩; conv => whnf)
          | (refine ⟨_, _, hfw _, (by first | exact True.intro | exact And.intro rfl flat_nil), ?_⟩; conv => whnf)
          | (intro z_ hz_; conv => whnf)
          | (refine ⟨[], rfl, ?_, True.intro⟩; (conv => whnf); (first | done | ((first | exact rfl | (exfalso; simp at h_; done)); done)))
          | fail)
        all_goals simp_all
      | true =>
        rw [hw] at hfw
        have hO := oSmall_small ho
        obtain ⟨hw1, hw2⟩ := wfew_small hw
        have a1 := fun H => s39 l w o hO hs H
        have a2 := fun H => d_hold16 l w o hO hs (by omega) (by omega) H
        have asm1 := holdF_small (oLocks o w) hs
        have b1 := fun H => c42 l s hs H
        have b2 := fun H => d_break l s hs H
        have bs := (brk_ok s l hs).small
        have f1 := fun H => c41 l w ws hs (by omega) (fun x hx => by have := hw2 x hx; omega) H
        have f2 := fun H => d_free l w ws hs (by omega) (fun x hx => by have := hw2 x hx; omega) H
        rw [gfree_eq] at f2
        have bl : ∀ r : Locks × List Int, r.2.length < 1000000 → ∀ H, CallEq X H 13 [.d (encI r.2), .d (encI r.2)] (.d (.bool true)) [] := fun r hr H => by
          have := c16 r.2 r.2 hr H
          rwa [numbers_self] at this
        have nn := bl (brk s 4 l []) (by have := (brk_ok s l hs).len; omega)
        have same : ∀ a : Locks, smallLs a → ∀ H, CallEq X H 12 [pLocks a, pLocks a] (.d (.bool true)) [] := fun a asm H => by
          have := c27 a a (by have := asm.1; omega) (by have := asm.2.1; omega) H
          rwa [sameLs_self, sameLs_self] at this
        have sa := same _ asm1
        have sb := same _ bs
        unfold pHold at a1 a2
        unfold pBrk at b1 b2
        generalize holdF l (oLocks o w) = r at a1 a2 sa
        generalize brk s 4 l [] = q at b1 b2 sb nn
        generalize lFree l w ws = b at f1 f2
        clear bl same asm1 bs
        refine callEq_of_body X_ok rfl Tryz.func3 rfl ?_
        conv => whnf
        repeat' (first
          | (refine ⟨_, _, h37 _, True.intro, ?_⟩; conv => whnf)
          | (refine ⟨_, _, h14 _, True.intro, ?_⟩; conv => whnf)
          | (refine ⟨_, _, h38 _, True.intro, ?_⟩; conv => whnf)
          | (refine ⟨_, _, hfw _, True.intro, ?_⟩; conv => whnf)
          | (refine ⟨_, _, a1 _, True.intro, ?_⟩; conv => whnf)
          | (refine ⟨_, _, a2 _, True.intro, ?_⟩; conv => whnf)
          | (refine ⟨_, _, b1 _, True.intro, ?_⟩; conv => whnf)
          | (refine ⟨_, _, b2 _, True.intro, ?_⟩; conv => whnf)
          | (refine ⟨_, _, sa _, True.intro, ?_⟩; conv => whnf)
          | (refine ⟨_, _, sb _, True.intro, ?_⟩; conv => whnf)
          | (refine ⟨_, _, nn _, True.intro, ?_⟩; conv => whnf)
          | (refine ⟨_, _, f1 _, True.intro, ?_⟩; conv => whnf)
          | (refine ⟨_, _, f2 _, True.intro, ?_⟩; conv => whnf)
          | (refine And.intro (fun _ => ?_) (fun h => absurd h (by decide)); conv => whnf)
          | (refine And.intro (fun h => absurd h (by decide)) (fun _ => ?_); conv => whnf)
          | (refine And.intro (fun _ => ?_) (fun h => absurd (beq_self_eq_true r.2 ▸ h) (by decide)); conv => whnf)
          | fail)
        cases b <;> exact ⟨[], rfl, rfl, True.intro⟩
end Go.Proofs.Ve

/- From what a law's arguments read as to plain data; from a contract to the row. (Nothing of one seat: but for the parts that it imports.) -/
set_option linter.all false
namespace Go.Proofs.Ve
open Go Go.ChangeShapes Go.WideShapes Go.RowKit

/-- What a cell may hold. -/
inductive CT where
  | bool
  | int (k : IntKind)
  | str
  | sl (r : List CT)
inductive FitC : CT → DV → Prop
  | bool (b : Bool) : FitC .bool (.bool b)
  | int (k : IntKind) (n : Int) (h : (Lit.int k n).wf = true) : FitC (.int k) (.int k n)
  | str (s : ByteArray) (h : s.size ≤ maxLen) : FitC .str (.str s)
  | sl (r : List CT) (xs : List (List DV)) (hn : xs.length ≤ maxLen) (hs : ∀ x ∈ xs, x.length = r.length) (h : ∀ x ∈ xs, ∀ (j : Nat) c y, r[j]? = some c → x[j]? = some y → FitC c y) : FitC (.sl r) (.sl xs)
def FitR (r : List CT) (x : List DV) : Prop := x.length = r.length ∧ ∀ (j : Nat) c y, r[j]? = some c → x[j]? = some y → FitC c y
theorem FitR.nil : FitR [] [] := ⟨rfl, fun j c y h => by simp at h⟩
theorem FitR.cons {c : CT} {r : List CT} {x : List DV} (h : FitR (c :: r) x) : ∃ y x', x = y :: x' ∧ FitC c y ∧ FitR r x' := by
  obtain ⟨h1, h2⟩ := h
  match x, h1 with
  | y :: x', h1 => exact ⟨y, x', rfl, h2 0 c y rfl rfl, by simpa using h1, fun j c' y' hc hy => h2 (j + 1) c' y' (by simpa using hc) (by simpa using hy)⟩
theorem FitR.done {x : List DV} (h : FitR [] x) : x = [] := by
  obtain ⟨h1, _⟩ := h
  exact List.length_eq_zero_iff.1 (by simpa using h1)
theorem FitR.app {a b : List CT} {x y : List DV} (h : FitR a x) (k : FitR b y) : FitR (a ++ b) (x ++ y) := by
  refine ⟨by rw [List.length_append, List.length_append, h.1, k.1], fun j c u hc hu => ?_⟩
  by_cases hj : j < a.length
  · rw [List.getElem?_append_left hj] at hc
    rw [List.getElem?_append_left (by rw [h.1]; exact hj)] at hu
    exact h.2 j c u hc hu
  · rw [List.getElem?_append_right (by omega)] at hc
    rw [List.getElem?_append_right (by rw [h.1]; omega), h.1] at hu
    exact k.2 _ c u hc hu
theorem FitC.sl_inv {r : List CT} {x : DV} (h : FitC (.sl r) x) : ∃ xs, x = .sl xs ∧ xs.length ≤ maxLen ∧ ∀ y ∈ xs, FitR r y := by
  cases h with
  | sl _ xs hn hs h => exact ⟨xs, rfl, hn, fun y hy => ⟨hs y hy, h y hy⟩⟩
theorem FitC.bool_inv {x : DV} (h : FitC .bool x) : ∃ b, x = .bool b := by cases h; exact ⟨_, rfl⟩
theorem FitC.int_inv {k : IntKind} {x : DV} (h : FitC (.int k) x) : ∃ n, x = .int k n ∧ (Lit.int k n).wf = true := by cases h with | int _ n h => exact ⟨n, rfl, h⟩
theorem FitC.str_inv {x : DV} (h : FitC .str x) : ∃ s, x = .str s ∧ s.size ≤ maxLen := by cases h with | str s h => exact ⟨s, rfl, h⟩

/-- The cells of a type, where they are plain. -/
noncomputable def layOff (one : TypeId → Option (List CT)) (size : TypeId → Nat) (l : List (Nat × TypeId)) : Nat → Option (List CT) :=
  List.rec (fun _ => some []) (fun p _ ih off => if p.1 = off then (one p.2).bind fun r => if r.length = size p.2 then (ih (off + size p.2)).map fun rs => r ++ rs else none else none) l
noncomputable def layB (P : Program) (fuel : Nat) : TypeId → Option (List CT) :=
  Nat.rec (fun _ => none) (fun _ ih t =>
    match P.underlying t with
    | some .bool => some [.bool]
    | some (.int k) => some [.int k]
    | some .string => some [.str]
    | some (.slice e) => (ih e).bind fun r => if r.length = P.cellsOf e then some [.sl r] else none
    | some (.struct fs) => (layOff ih P.cellsOf (fs.toList.map fun f => (f.offset, f.type)) 0).bind fun r => if r.length = P.cellsOf t then some r else none
    | some (.array n e) => (layOff ih P.cellsOf ((List.range n).map fun i => (i * P.cellsOf e, e)) 0).bind fun r => if r.length = P.cellsOf t then some r else none
    | _ => none) fuel

section
variable {H : Type} {enc : TypeId × Value → H} {P : Program} {w : World} {spare : Nat → Bool} {held : Bool}
def okW (w : World) (k : Nat) : Prop := k < w.heap.size
def Reads (w : World) (r : List CT) (cs : List Value) (ds : List DV) : Prop :=
  cs.length = r.length ∧ FitR r ds ∧ ∀ (j : Nat) y u, ds[j]? = some y → cs[j]? = some u → RD w (okW w) y u
theorem reads_one {c : CT} {y : DV} {u : Value} (h : FitC c y) (k : RD w (okW w) y u) : Reads w [c] [u] [y] := by
  refine ⟨rfl, ⟨rfl, fun j c' y' hc hy => ?_⟩, fun j y' u' hy hu => ?_⟩
  · cases j with
    | zero => simp at hc hy; subst hc; subst hy; exact h
    | succ j => simp at hc
  · cases j with
    | zero => simp at hu hy; subst hu; subst hy; exact k
    | succ j => simp at hy
theorem cell_lt {a : Addr} {v : Value} (h : w.cell? a = some v) : a.block < w.heap.size := by
  apply Classical.byContradiction
  intro hn
  have : w.heap[a.block]? = none := by rw [Array.getElem?_eq_none_iff]; omega
  simp [World.cell?, this] at h
theorem off_sound {fuel : Nat} {one : TypeId → Option (List CT)} (hone : ∀ t r, one t = some r → ∀ fuel cs x, DataW.trod enc P w 0 spare held fuel t cs = some x → ∃ ds, Reads w r cs ds) (cs : List Value) :
    ∀ (l : List (Nat × TypeId)) (off : Nat) (r : List CT), layOff one P.cellsOf l off = some r → off + r.length ≤ cs.length →
      (∀ p ∈ l, ∃ n y, DataW.trod enc P w 0 spare held n p.2 ((cs.drop p.1).take (P.cellsOf p.2)) = some y) → ∃ ds, Reads w r ((cs.drop off).take r.length) ds := by
  intro l
  induction l with
  | nil =>
    intro off r h hle _
    change some [] = some r at h
    cases h
    exact ⟨[], by simp, FitR.nil, fun j y u hy => by simp at hy⟩
  | cons p l ih =>
    intro off r h hle hx
    change (if p.1 = off then (one p.2).bind fun r => if r.length = P.cellsOf p.2 then (layOff one P.cellsOf l (off + P.cellsOf p.2)).map fun rs => r ++ rs else none else none) = some r at h
    split at h
    · next hoff =>
      obtain ⟨r1, h1, h2⟩ := Option.bind_eq_some_iff.1 h
      split at h2
      · next hlen =>
        obtain ⟨rs, h3, rfl⟩ := Option.map_eq_some_iff.1 h2
        rw [List.length_append] at hle ⊢
        obtain ⟨n, y, hy⟩ := hx p (List.mem_cons_self ..)
        obtain ⟨d1, e1, f1, g1⟩ := hone p.2 r1 h1 n _ y hy
        obtain ⟨d2, e2, f2, g2⟩ := ih (off + P.cellsOf p.2) rs h3 (by omega) (fun q hq => hx q (List.mem_cons_of_mem _ hq))
        rw [hoff] at g1 e1
        refine ⟨d1 ++ d2, by rw [List.length_take, List.length_drop, List.length_append]; omega, f1.app f2, fun j u v hu hv => ?_⟩
        by_cases hj : j < r1.length
        · rw [List.getElem?_append_left (by rw [f1.1]; exact hj)] at hu
          refine g1 j u v hu ?_
          rw [List.getElem?_take, if_pos (by omega)] at hv ⊢
          exact hv
        · rw [List.getElem?_append_right (by rw [f1.1]; omega), f1.1] at hu
          refine g2 (j - r1.length) u v hu ?_
          rw [List.getElem?_take] at hv ⊢
          split at hv
          · next hjj =>
            rw [if_pos (by omega)]
            rw [List.getElem?_drop] at hv ⊢
            rw [← hv]; congr 1; omega
          · cases hv
      · cases h2
    · cases h
theorem trod_arr {t e : TypeId} {n fuel : Nat} {cs : List Value} {x : DataW H × List MemPlace} (ht : P.underlying t = some (.array n e)) (h : DataW.trod enc P w 0 spare held fuel t cs = some x) :
    ∃ m, cs.length = P.cellsOf t ∧ ∀ i, i < n → ∃ y, DataW.trod enc P w 0 spare held m e ((cs.drop (i * P.cellsOf e)).take (P.cellsOf e)) = some y := by
  cases fuel with
  | zero => simp [DataW.trod] at h
  | succ m =>
    unfold DataW.trod at h
    rw [ht] at h
    split at h <;> simp_all
    obtain ⟨hcl, xs, hp, hd⟩ := h
    refine ⟨m, fun i hi => ?_⟩
    have hg := mapM_some_get hp i i (by simp [hi])
    have hlt : i < xs.length := by have := mapM_some_length hp; simp at this; omega
    rw [List.getElem?_eq_getElem hlt] at hg
    obtain ⟨a, b, hab⟩ : ∃ a b, xs[i] = (a, b) := ⟨_, _, rfl⟩
    exact ⟨a, b, hg.trans (by rw [hab])⟩
theorem lay_sound : ∀ (f : Nat) (t : TypeId) (r : List CT), layB P f t = some r → ∀ fuel cs x, DataW.trod enc P w 0 spare held fuel t cs = some x → ∃ ds, Reads w r cs ds := by
  intro f
  induction f with
  | zero => intro t r h; cases h
  | succ f ih =>
    intro t r h fuel cs x hx
    change (match P.underlying t with
      | some .bool => some [.bool]
      | some (.int k) => some [.int k]
      | some .string => some [.str]
      | some (.slice e) => (layB P f e).bind fun r => if r.length = P.cellsOf e then some [.sl r] else none
      | some (.struct fs) => (layOff (layB P f) P.cellsOf (fs.toList.map fun f => (f.offset, f.type)) 0).bind fun r => if r.length = P.cellsOf t then some r else none
      | some (.array n e) => (layOff (layB P f) P.cellsOf ((List.range n).map fun i => (i * P.cellsOf e, e)) 0).bind fun r => if r.length = P.cellsOf t then some r else none
      | _ => none) = some r at h
    split at h
    · next hu =>
      cases h
      obtain ⟨b, rfl, _⟩ := DataW.trod_bool hu hx
      exact ⟨_, reads_one (.bool b) (.bool b)⟩
    · next k hu =>
      cases h
      obtain ⟨n, rfl, _, hw⟩ := DataW.trod_int hu hx
      exact ⟨_, reads_one (.int k n hw) (.int k n)⟩
    · next hu =>
      cases h
      obtain ⟨s, rfl, _, hs⟩ := DataW.trod_string hu hx
      exact ⟨_, reads_one (.str s hs) (.str s)⟩
    · next e hu =>
      obtain ⟨r1, h1, h2⟩ := Option.bind_eq_some_iff.1 h
      split at h2
      · next hlen =>
        cases h2
        rcases Deep.open_slice hu hx with ⟨rfl, _⟩ | ⟨a, len, cap, m, n, D, Pl, rfl, hb, hl, hm, hmm, rfl, hel⟩
        · refine ⟨_, reads_one (.sl r1 [] (Nat.zero_le _) (fun x hx => by cases hx) (fun x hx => by cases hx)) (.sl r1.length [] none 0 0 ⟨0, 0, none⟩ (fun _ => .nilFunc) rfl (Nat.le_refl _) (by omega) (fun h => by omega) (fun x hx => by cases hx) (fun i x j y hx => by simp at hx) (fun i x j y hx => by simp at hx))⟩
        · have hlm : len ≤ m := by rw [hmm]; split <;> omega
          have hall : ∀ i, i < len → ∃ d : List DV, FitR r1 d ∧ ∀ (j : Nat) y, d[j]? = some y → ∃ u, w.cell? (a.add (i * r1.length + j)) = some u ∧ RD w (okW w) y u := by
            intro i hi
            obtain ⟨cs', hc, ht⟩ := hel i (by omega)
            obtain ⟨d, e1, e2, e3⟩ := ih e r1 h1 n cs' _ ht
            obtain ⟨_, hlen', hcell⟩ := World.cells?_some hc
            refine ⟨d, e2, fun j y hy => ?_⟩
            have hj : j < cs'.length := by rw [e1, ← e2.1]; exact (List.getElem?_eq_some_iff.1 hy).1
            have := hcell j (by omega)
            rw [Deep.add_add, List.getElem?_eq_getElem hj] at this
            exact ⟨cs'[j], by rw [hlen]; exact this, e3 j y _ hy (List.getElem?_eq_getElem hj)⟩
          obtain ⟨d, hd⟩ := Deep.choose_lt hall
          have mem : ∀ x ∈ (List.range len).map d, ∃ i, i < len ∧ x = d i := fun x hx => by
            obtain ⟨i, hi, rfl⟩ := List.mem_map.1 hx
            exact ⟨i, List.mem_range.1 hi, rfl⟩
          have at_ : ∀ (i : Nat) x, ((List.range len).map d)[i]? = some x → i < len ∧ x = d i := fun i x hx => by
            rw [List.getElem?_map] at hx
            obtain ⟨k, hk, rfl⟩ := Option.map_eq_some_iff.1 hx
            obtain ⟨hlt, hk⟩ := List.getElem?_eq_some_iff.1 hk
            simp at hk hlt
            subst hk
            exact ⟨hlt, rfl⟩
          refine ⟨_, reads_one (.sl r1 ((List.range len).map d) (by simp; omega) (fun x hx => ?_) (fun x hx => ?_)) (.sl r1.length ((List.range len).map d) (some a) len cap a (fun k => (w.cell? (a.add k)).getD .nilFunc) (by simp) hl (by unfold maxLen at hm; omega) (fun _ => rfl) (fun x hx => ?_) (fun i x j y hx hy => ?_) (fun i x j y hx hy => ?_))⟩
          · obtain ⟨i, hi, rfl⟩ := mem x hx; exact (hd i hi).1.1
          · obtain ⟨i, hi, rfl⟩ := mem x hx; exact (hd i hi).1.2
          · obtain ⟨i, hi, rfl⟩ := mem x hx; exact (hd i hi).1.1
          · obtain ⟨hi, rfl⟩ := at_ i x hx
            obtain ⟨u, hu1, hu2⟩ := (hd i hi).2 j y hy
            refine ⟨?_, by rw [hu1]; rfl⟩
            have := cell_lt hu1
            rw [add_block] at this
            exact this
          · obtain ⟨hi, rfl⟩ := at_ i x hx
            obtain ⟨u, hu1, hu2⟩ := (hd i hi).2 j y hy
            show RD w (okW w) y ((w.cell? (a.add (i * r1.length + j))).getD .nilFunc)
            rw [hu1]; exact hu2
      · cases h2
    · next fs hu =>
      obtain ⟨r1, h1, h2⟩ := Option.bind_eq_some_iff.1 h
      split at h2
      · next hlen =>
        cases h2
        obtain ⟨xs, n, _, _, hcl, hxl, hf⟩ := DataW.trod_struct hu hx
        have := off_sound (fuel := 0) ih cs _ 0 r h1 (by omega) (fun p hp => by
          obtain ⟨g, hg, rfl⟩ := List.mem_map.1 hp
          obtain ⟨i, hi⟩ := List.mem_iff_getElem?.1 hg
          have hi' : fs[i]? = some g := by simpa using hi
          have := hf i g hi'
          have hlt : i < xs.length := by rw [hxl]; exact (Array.getElem?_eq_some_iff.1 hi').1
          rw [List.getElem?_eq_getElem hlt] at this
          exact ⟨n, _, this⟩)
        rw [List.drop_zero, List.take_of_length_le (by omega)] at this
        exact this
      · cases h2
    · next n e hu =>
      obtain ⟨r1, h1, h2⟩ := Option.bind_eq_some_iff.1 h
      split at h2
      · next hlen =>
        cases h2
        obtain ⟨m, hcl, hf⟩ := trod_arr hu hx
        have := off_sound (fuel := 0) ih cs _ 0 r h1 (by omega) (fun p hp' => by
          obtain ⟨i, hi, rfl⟩ := List.mem_map.1 hp'
          exact ⟨m, hf i (List.mem_range.1 hi)⟩)
        rw [List.drop_zero, List.take_of_length_le (by omega)] at this
        exact this
      · cases h2
    · cases h
/-- What a parameter is to the walker. -/
def aggB (P : Program) (t : TypeId) : Bool := match P.underlying t with | some (.struct _) => true | some (.array _ _) => true | _ => false
def pOf (agg : Bool) (ds : List DV) : PV := match agg with | true => .agg (ds.map .d) | false => (match ds with | [y] => .d y | _ => .any)
def m0 (w : World) : M := ⟨w, fun _ _ => none, fun _ => False⟩
theorem m0_ok (w : World) (k : Nat) (h : okW w k) : (m0 w).ok k := ⟨h, fun h => h⟩
theorem RD.m0 {x : DV} {v : Value} (h : RD w (okW w) x v) : RD (m0 w).w (m0 w).ok x v := h.mono fun k hk => ⟨m0_ok w k hk, rfl⟩
theorem arg_reads {t : TypeId} {v : Value} {d : DataW H} {ps : List MemPlace} (f : Nat) {r : List CT} (hr : layB P f t = some r) (hval : Value.okWide P w .any 0 t v) (hd : DataW.Trod enc P w 0 spare held t v d ps) :
    ∃ ds, FitR r ds ∧ RP (m0 w) (pOf (aggB P t) ds) v := by
  obtain ⟨fuel, hf⟩ := hd
  obtain ⟨ds, h1, h2, h3⟩ := lay_sound f t r hr fuel _ _ hf
  refine ⟨ds, h2, ?_⟩
  have single : ∀ v : Value, v.cells = #[v] → Reads w r v.cells.toList ds → RP (m0 w) (pOf false ds) v := fun v hv hd => by
    obtain ⟨h1, h2, h3⟩ := hd
    rw [hv] at h1 h3
    have hl : ds.length = 1 := by rw [h2.1, ← h1]; rfl
    match ds, hl with
    | [y], _ => exact .d y v (h3 0 y v rfl rfl).m0
  cases f with
  | zero => cases hr
  | succ f =>
    change (match P.underlying t with
      | some .bool => some [.bool]
      | some (.int k) => some [.int k]
      | some .string => some [.str]
      | some (.slice e) => (layB P f e).bind fun r => if r.length = P.cellsOf e then some [.sl r] else none
      | some (.struct fs) => (layOff (layB P f) P.cellsOf (fs.toList.map fun f => (f.offset, f.type)) 0).bind fun r => if r.length = P.cellsOf t then some r else none
      | some (.array n e) => (layOff (layB P f) P.cellsOf ((List.range n).map fun i => (i * P.cellsOf e, e)) 0).bind fun r => if r.length = P.cellsOf t then some r else none
      | _ => none) = some r at hr
    unfold aggB
    have agg : ∀ cs : Array Value, v = .agg cs → RP (m0 w) (pOf true ds) v := fun cs hv => by
      subst hv
      refine .agg _ _ ?_ fun j p u hp hu => ?_
      · rw [List.length_map, h2.1, ← h1]; simp [Value.cells]
      · rw [List.getElem?_map] at hp
        obtain ⟨y, hy, rfl⟩ := Option.map_eq_some_iff.1 hp
        exact .d y u (h3 j y u hy (by simpa [Value.cells] using hu)).m0
    split at hr
    · next hu => rw [hu]; obtain ⟨b, rfl⟩ := okWide_bool hu hval; exact single _ rfl ⟨h1, h2, h3⟩
    · next k hu => rw [hu]; obtain ⟨n, rfl⟩ := okWide_int hu hval; exact single _ rfl ⟨h1, h2, h3⟩
    · next hu => rw [hu]; obtain ⟨s, rfl⟩ := okWide_string hu hval; exact single _ rfl ⟨h1, h2, h3⟩
    · next e hu => rw [hu]; obtain ⟨a, l, c, rfl⟩ := okWide_slice hu hval; exact single _ rfl ⟨h1, h2, h3⟩
    · next fs hu => rw [hu]; obtain ⟨cs, hv, _⟩ := okWide_struct hu hval; exact agg cs hv
    · next n e hu =>
      rw [hu]
      simp only [Value.okWide, hu] at hval
      obtain ⟨cs, hv, _⟩ := hval
      exact agg cs hv
    · cases hr
end
/-- Into the row. -/
theorem m0_inv (w : World) : Inv (m0 w) [] [] := by
  have none_ : ∀ l i b, getB [] [] l i = some b → False := fun l i b h => by cases l <;> simp [getB] at h
  exact ⟨fun l i b h => (none_ l i b h).elim, fun l i b l' i' b' v v' k h => (none_ l i b h).elim, fun l i b v k h => (none_ l i b h).elim, fun k hk => hk.elim⟩
theorem CallEq.calls {C : Cx} {f : Nat} {args : List PV} {b : Bool} {vs : Array Value} {w : World} (h : CallEq C [] f args (.d (.bool b)) []) (hn : args.length = vs.size) (ha : ∀ (j : Nat) p v, args[j]? = some p → vs[j]? = some v → RP (m0 w) p v) :
    Calls C.P f vs w fun e w' => e = .returned (.bool b) ∧ Below w.heap.size w w' := by
  unfold CallEq at h
  refine (h (m0 w) vs (m0_inv w) (fun _ => rfl) hn ha).mono fun e w' ⟨v, m', he, hw, hg, _, _, _, hr⟩ => ?_
  subst hw
  have hv : v = .bool b := by
    cases hr with
    | d x v hx => cases hx; rfl
  exact ⟨by rw [he, hv], hg.os, hg.tape, hg.output, hg.size, hg.heap⟩
end Go.Proofs.Ve

/- The seat's types, as plain data. -/
set_option maxRecDepth 100000
set_option linter.all false
namespace Go.Proofs.Ve
open Go
theorem all_map {α β : Type} {f : α → β} : ∀ (xs : List β), (∀ y ∈ xs, ∃ a, y = f a) → ∃ l : List α, xs = l.map f
  | [], _ => ⟨[], rfl⟩
  | y :: ys, h => by
    obtain ⟨a, rfl⟩ := h y (List.mem_cons_self ..)
    obtain ⟨l, rfl⟩ := all_map ys (fun z hz => h z (List.mem_cons_of_mem _ hz))
    exact ⟨a :: l, rfl⟩
theorem fit_bytes {y : DV} (h : FitC (.sl [.int .u8]) y) : ∃ b, y = encB b := by
  obtain ⟨xs, rfl, _, h2⟩ := h.sl_inv
  obtain ⟨l, rfl⟩ := all_map (f := fun x : UInt8 => [DV.int .u8 x.toNat]) xs (fun z hz => by
    obtain ⟨u, z', rfl, hu, hz'⟩ := (h2 z hz).cons
    cases hz'.done
    obtain ⟨n, rfl, hn⟩ := hu.int_inv
    simp only [Lit.wf, Bool.and_eq_true, decide_eq_true_eq] at hn
    have hmin : IntKind.u8.min = 0 := by decide
    have hmax : IntKind.u8.max = 255 := by decide
    rw [hmin, hmax] at hn
    refine ⟨UInt8.ofNat n.toNat, ?_⟩
    have : ((UInt8.ofNat n.toNat).toNat : Int) = n := by rw [UInt8.toNat_ofNat']; omega
    rw [this])
  exact ⟨l, rfl⟩
def ctLock : List CT := [.int .i64, .bool, .int .i64, .sl [.int .u8], .sl [.int .u8], .bool, .int .i64]
theorem fit_lock {ds : List DV} (h : FitR ctLock ds) : ∃ x : Lock, ds = cLock x := by
  obtain ⟨_, _, rfl, h1, h⟩ := h.cons
  obtain ⟨_, _, rfl, h2, h⟩ := h.cons
  obtain ⟨_, _, rfl, h3, h⟩ := h.cons
  obtain ⟨_, _, rfl, h4, h⟩ := h.cons
  obtain ⟨_, _, rfl, h5, h⟩ := h.cons
  obtain ⟨_, _, rfl, h6, h⟩ := h.cons
  obtain ⟨_, _, rfl, h7, h⟩ := h.cons
  cases h.done
  obtain ⟨a, rfl, _⟩ := h1.int_inv
  obtain ⟨b, rfl⟩ := h2.bool_inv
  obtain ⟨c, rfl, _⟩ := h3.int_inv
  obtain ⟨d, rfl⟩ := fit_bytes h4
  obtain ⟨e, rfl⟩ := fit_bytes h5
  obtain ⟨f, rfl⟩ := h6.bool_inv
  obtain ⟨g, rfl, _⟩ := h7.int_inv
  exact ⟨⟨a, b, ⟨c, d, e, f⟩, g⟩, rfl⟩
theorem fit_list {y : DV} (h : FitC (.sl ctLock) y) : ∃ l : List Lock, y = encLocks l := by
  obtain ⟨xs, rfl, _, h2⟩ := h.sl_inv
  obtain ⟨l, rfl⟩ := all_map (f := cLock) xs (fun z hz => fit_lock (h2 z hz))
  exact ⟨l, rfl⟩
def ctLocks : List CT := [.sl ctLock, .sl ctLock]
theorem fit_locks {ds : List DV} (h : FitR ctLocks ds) : ∃ l : Locks, pOf true ds = pLocks l := by
  obtain ⟨_, _, rfl, h1, h⟩ := h.cons
  obtain ⟨_, _, rfl, h2, h⟩ := h.cons
  cases h.done
  obtain ⟨a, rfl⟩ := fit_list h1
  obtain ⟨b, rfl⟩ := fit_list h2
  exact ⟨⟨a, b⟩, rfl⟩
theorem fit_plock {ds : List DV} (h : FitR ctLock ds) : ∃ x : Lock, pOf true ds = pLock x := by
  obtain ⟨x, rfl⟩ := fit_lock h
  exact ⟨x, rfl⟩
theorem fit_int {k : IntKind} {ds : List DV} (h : FitR [.int k] ds) : ∃ n, pOf false ds = .d (.int k n) ∧ (Lit.int k n).wf = true := by
  obtain ⟨_, _, rfl, h1, h⟩ := h.cons
  cases h.done
  obtain ⟨a, rfl, hw⟩ := h1.int_inv
  exact ⟨a, rfl, hw⟩
end Go.Proofs.Ve

/- The seat's types, as plain data: operations. -/
set_option maxRecDepth 100000
set_option linter.all false
namespace Go.Proofs.Ve
open Go
def ctOp : List CT := [.int .i64, .int .i64, .sl [.int .u8], .sl [.int .u8], .bool, .sl [.int .u8], .int .i64]
def encOps (l : List Oper) : DV := .sl (l.map cOper)
theorem fit_oper {ds : List DV} (h : FitR ctOp ds) : ∃ o : Oper, ds = cOper o := by
  obtain ⟨_, _, rfl, h1, h⟩ := h.cons
  obtain ⟨_, _, rfl, h2, h⟩ := h.cons
  obtain ⟨_, _, rfl, h3, h⟩ := h.cons
  obtain ⟨_, _, rfl, h4, h⟩ := h.cons
  obtain ⟨_, _, rfl, h5, h⟩ := h.cons
  obtain ⟨_, _, rfl, h6, h⟩ := h.cons
  obtain ⟨_, _, rfl, h7, h⟩ := h.cons
  cases h.done
  obtain ⟨a, rfl, _⟩ := h1.int_inv
  obtain ⟨b, rfl, _⟩ := h2.int_inv
  obtain ⟨c, rfl⟩ := fit_bytes h3
  obtain ⟨d, rfl⟩ := fit_bytes h4
  obtain ⟨e, rfl⟩ := h5.bool_inv
  obtain ⟨f, rfl⟩ := fit_bytes h6
  obtain ⟨g, rfl, _⟩ := h7.int_inv
  exact ⟨⟨a, b, c, d, e, f, g⟩, rfl⟩
theorem fit_poper {ds : List DV} (h : FitR ctOp ds) : ∃ o : Oper, pOf true ds = pOper o := by
  obtain ⟨o, rfl⟩ := fit_oper h
  exact ⟨o, rfl⟩
theorem fit_opers {ds : List DV} (h : FitR [.sl ctOp] ds) : ∃ l : List Oper, pOf false ds = .d (encOps l) := by
  obtain ⟨_, _, rfl, h1, h⟩ := h.cons
  cases h.done
  obtain ⟨xs, rfl, _, h2⟩ := h1.sl_inv
  obtain ⟨l, rfl⟩ := all_map (f := cOper) xs (fun z hz => fit_oper (h2 z hz))
  exact ⟨l, rfl⟩
theorem wf_u8 {n : Int} (h : (Lit.int .u8 n).wf = true) : 0 ≤ n ∧ n < 256 := by
  have hmin : IntKind.u8.min = 0 := by decide
  have hmax : IntKind.u8.max = 255 := by decide
  simp only [Lit.wf, hmin, hmax] at h
  simp at h; omega
end Go.Proofs.Ve

/- The seat's types, as plain data: writes. -/
set_option maxRecDepth 100000
set_option linter.all false
namespace Go.Proofs.Ve
open Go
def ctWr : List CT := [.int .i64, .sl [.int .u8], .bool, .sl [.int .u8]]
theorem fit_wr {ds : List DV} (h : FitR ctWr ds) : ∃ o : Wr, ds = cWr o := by
  obtain ⟨_, _, rfl, h1, h⟩ := h.cons
  obtain ⟨_, _, rfl, h2, h⟩ := h.cons
  obtain ⟨_, _, rfl, h3, h⟩ := h.cons
  obtain ⟨_, _, rfl, h4, h⟩ := h.cons
  cases h.done
  obtain ⟨a, rfl, _⟩ := h1.int_inv
  obtain ⟨b, rfl⟩ := fit_bytes h2
  obtain ⟨c, rfl⟩ := h3.bool_inv
  obtain ⟨d, rfl⟩ := fit_bytes h4
  exact ⟨⟨a, b, c, d⟩, rfl⟩
theorem fit_writes {ds : List DV} (h : FitR [.sl ctWr] ds) : ∃ l : List Wr, pOf false ds = .d (encW l) := by
  obtain ⟨_, _, rfl, h1, h⟩ := h.cons
  cases h.done
  obtain ⟨xs, rfl, _, h2⟩ := h1.sl_inv
  obtain ⟨l, rfl⟩ := all_map (f := cWr) xs (fun z hz => fit_wr (h2 z hz))
  exact ⟨l, rfl⟩
end Go.Proofs.Ve

/- The seat's types, as plain data: edges, stamps. -/
set_option maxRecDepth 100000
set_option linter.all false
namespace Go.Proofs.Ve
open Go
def ctEdge : List CT := [.int .i64, .int .i64]
theorem fit_edge {ds : List DV} (h : FitR ctEdge ds) : ∃ e : Int × Int, ds = cEdge e := by
  obtain ⟨_, _, rfl, h1, h⟩ := h.cons
  obtain ⟨_, _, rfl, h2, h⟩ := h.cons
  cases h.done
  obtain ⟨a, rfl, _⟩ := h1.int_inv
  obtain ⟨b, rfl, _⟩ := h2.int_inv
  exact ⟨(a, b), rfl⟩
theorem fit_edges {ds : List DV} (h : FitR [.sl ctEdge] ds) : ∃ l : List (Int × Int), pOf false ds = .d (encE l) := by
  obtain ⟨_, _, rfl, h1, h⟩ := h.cons
  cases h.done
  obtain ⟨xs, rfl, _, h2⟩ := h1.sl_inv
  obtain ⟨l, rfl⟩ := all_map (f := cEdge) xs (fun z hz => fit_edge (h2 z hz))
  exact ⟨l, rfl⟩
theorem fit_stamps {ds : List DV} (h : FitR [.int .i64, .int .i64, .int .i64, .int .i64] ds) : ∃ s : Nat → Int, pOf true ds = pSt s := by
  obtain ⟨_, _, rfl, h1, h⟩ := h.cons
  obtain ⟨_, _, rfl, h2, h⟩ := h.cons
  obtain ⟨_, _, rfl, h3, h⟩ := h.cons
  obtain ⟨_, _, rfl, h4, h⟩ := h.cons
  cases h.done
  obtain ⟨a, rfl, _⟩ := h1.int_inv
  obtain ⟨b, rfl, _⟩ := h2.int_inv
  obtain ⟨c, rfl, _⟩ := h3.int_inv
  obtain ⟨d, rfl, _⟩ := h4.int_inv
  exact ⟨fun i => [a, b, c, d].getD i 0, rfl⟩
end Go.Proofs.Ve

/- The row of HandTells: its walk's contract, lifted. -/
set_option linter.all false
set_option maxRecDepth 100000
namespace Go.Proofs.YtpmhiiembbfbeaaGreat.handTells
open Go Go.Proofs.Ve Go.ChangeShapes Go.WideShapes Go.ChangeAt Go.RowKit
theorem own : ownKnob Tryz.prog.godebug = none := by kernel_rfl
theorem laidOut : laidOutB Tryz.prog = true := by kernel_rfl
theorem lifted (os : Os) (started : os.Started) (H : Type) (enc : TypeId × Value → H) :
    ReturnsInHanded {} Tryz.checked os 3 .any (Rows.handTellsSpec.pre6 enc Tryz.prog Tryz.f3 Rows.handTellsRow.domain false) (Rows.handTellsSpec.post enc Tryz.prog Tryz.f3 false true false false) := by
  refine returnsInHanded_of_change_sized (C := Tryz.checked) own started (by kernel_rfl) Tryz.func3
    (ChangeSpec.witness6 (enc := enc) (C := Tryz.checked) false ⟨#[], #[.agg #[.slice none 0 0, .slice none 0 0], .int .i64 0, .agg #[.int .i64 0, .int .i64 0, .slice none 0 0, .slice none 0 0, .bool false, .slice none 0 0, .int .i64 0], .slice none 0 0, .agg #[.int .i64 0, .int .i64 0, .int .i64 0, .int .i64 0]], []⟩ 8 (by kernel_rfl) (by kernel_rfl) (by kernel_rfl) (by kernel_rfl)) ?_
  intro W base args ds gs before hval0 hW hcnd hsz0 _
  have hval : ∀ (j : Nat) t v, Tryz.f3.params[j]? = some t → args[j]? = some v → Value.okWide Tryz.prog W .any base t v := hval0
  have hW' := hW
  obtain ⟨p, q, hA0, hV, rfl, hfz, hnd⟩ := hW
  have hA : DataW.TrodAll enc Tryz.prog W 0 (fun _ => true) true Tryz.f3.params.toList args.toList ds p := hA0
  rw [Tryz.params3] at hA hval
  obtain ⟨v0, vs0, d0, ds0, p0, q0, hargs, rfl, rfl, h0, r0⟩ := trodAll_cons hA
  obtain ⟨v1, vs1, d1, ds1, p1, q1, rfl, rfl, rfl, h1, r1⟩ := trodAll_cons r0
  obtain ⟨v2, vs2, d2, ds2, p2, q2, rfl, rfl, rfl, h2, r2⟩ := trodAll_cons r1
  obtain ⟨v3, vs3, d3, ds3, p3, q3, rfl, rfl, rfl, h3, r3⟩ := trodAll_cons r2
  obtain ⟨v4, vs4, d4, ds4, p4, q4, rfl, rfl, rfl, h4, r4⟩ := trodAll_cons r3
  obtain ⟨rfl, rfl, rfl⟩ := trodAll_nil r4
  obtain rfl : args = #[v0, v1, v2, v3, v4] := by cases args; simp_all
  obtain ⟨rfl, rfl⟩ := trodVars_none hV
  obtain ⟨e0, fit0, rp0⟩ := arg_reads 12 (r := ctLocks) (by kernel_rfl) (hval 0 _ v0 rfl rfl) h0
  obtain ⟨x0, hx0⟩ := fit_locks fit0
  have rp0 : RP (m0 W) _ v0 := hx0 ▸ rp0
  have lt0 : ∀ x ∈ p0, x.block < W.heap.size := by obtain ⟨m, hm⟩ := h0; exact DataW.trod_lt m _ _ _ hm
  obtain ⟨e1, fit1, rp1⟩ := arg_reads 12 (r := [.int .i64]) (by kernel_rfl) (hval 1 _ v1 rfl rfl) h1
  obtain ⟨x1, hx1, hw1⟩ := fit_int fit1
  have rp1 : RP (m0 W) _ v1 := hx1 ▸ rp1
  have lt1 : ∀ x ∈ p1, x.block < W.heap.size := by obtain ⟨m, hm⟩ := h1; exact DataW.trod_lt m _ _ _ hm
  obtain ⟨e2, fit2, rp2⟩ := arg_reads 12 (r := ctOp) (by kernel_rfl) (hval 2 _ v2 rfl rfl) h2
  obtain ⟨x2, hx2⟩ := fit_poper fit2
  have rp2 : RP (m0 W) _ v2 := hx2 ▸ rp2
  have lt2 : ∀ x ∈ p2, x.block < W.heap.size := by obtain ⟨m, hm⟩ := h2; exact DataW.trod_lt m _ _ _ hm
  obtain ⟨e3, fit3, rp3⟩ := arg_reads 12 (r := [.sl ctWr]) (by kernel_rfl) (hval 3 _ v3 rfl rfl) h3
  obtain ⟨x3, hx3⟩ := fit_writes fit3
  have rp3 : RP (m0 W) _ v3 := hx3 ▸ rp3
  have lt3 : ∀ x ∈ p3, x.block < W.heap.size := by obtain ⟨m, hm⟩ := h3; exact DataW.trod_lt m _ _ _ hm
  obtain ⟨e4, fit4, rp4⟩ := arg_reads 12 (r := [.int .i64, .int .i64, .int .i64, .int .i64]) (by kernel_rfl) (hval 4 _ v4 rfl rfl) h4
  obtain ⟨x4, hx4⟩ := fit_stamps fit4
  have rp4 : RP (m0 W) _ v4 := hx4 ▸ rp4
  have lt4 : ∀ x ∈ p4, x.block < W.heap.size := by obtain ⟨m, hm⟩ := h4; exact DataW.trod_lt m _ _ _ hm
  have call : Calls Tryz.prog 3 #[v0, v1, v2, v3, v4] W fun e W' => e = .returned (.bool true) ∧ Below W.heap.size W W' := by
    refine CallEq.calls (d_law x0 x1 x2 x3 x4 []) rfl ?_
    intro j p v hp hv
    match j with
    | 0 => cases hp; cases hv; exact rp0
    | 1 => cases hp; cases hv; exact rp1
    | 2 => cases hp; cases hv; exact rp2
    | 3 => cases hp; cases hv; exact rp3
    | 4 => cases hp; cases hv; exact rp4
    | j + 5 => cases hp
  refine call.mono fun e W' ⟨he, bel⟩ => ?_
  subst he
  exact ⟨_, rfl, _, _, _, [], _, [], hW', trodAll_mk1 (shut_bool Tryz.underlying4 _), (trodAll_cons_mk (Below.trod laidOut (by kernel_rfl) (of_decide_eq_true (by kernel_rfl)) h0 bel lt0) (trodAll_cons_mk (Below.trod laidOut (by kernel_rfl) (of_decide_eq_true (by kernel_rfl)) h1 bel lt1) (trodAll_cons_mk (Below.trod laidOut (by kernel_rfl) (of_decide_eq_true (by kernel_rfl)) h2 bel lt2) (trodAll_cons_mk (Below.trod laidOut (by kernel_rfl) (of_decide_eq_true (by kernel_rfl)) h3 bel lt3) (trodAll_cons_mk (Below.trod laidOut (by kernel_rfl) (of_decide_eq_true (by kernel_rfl)) h4 bel lt4) trodAll_mk0))))), rfl, bel.frame _, fun h => by cases h⟩
theorem over : Rows.handTellsRow.holds Tryz.pinned (OpenSpec.ofChange Rows.handTellsSpec) :=
  OpenClaim.holds_of_wide 3 Tryz.f3 rfl rfl rfl rfl rfl rfl rfl ⟨rfl, rfl, rfl, rfl, rfl⟩ rfl rfl rfl rfl rfl (by kernel_rfl) Tryz.func3 (by kernel_rfl)
    (of_decide_eq_true (by kernel_rfl)) (by unfold Func.isWrapper; first | (rw [if_pos (by decide +kernel)]; kernel_rfl) | (rw [if_neg (by decide +kernel)]; exact ⟨rfl, rfl⟩))
    (fun os started H enc _ => lifted os started H enc)
theorem proved : Rows.HandTellsSaid := over
#print axioms proved
end Go.Proofs.YtpmhiiembbfbeaaGreat.handTells
namespace Go.Proofs.YtpmhiiembbfbeaaGreat
/-- The row, under a short name, for the claim. -/
theorem handTells_holds : Rows.HandTellsSaid := handTells.proved
end Go.Proofs.YtpmhiiembbfbeaaGreat
