/- LockMay, part 4 of 4. WHAT IS PROVED: LockMay: whatever the input, the law returns true, and the input reads as it did. No condition. -/
import Derived.Test.YtpmhiiembbfbeaaRows
import Derived.WalkKit
import Derived.ProofKit
import Derived.OpenShut
import Derived.ShutString
import Derived.ChangeOld
import Derived.Below
import Derived.SizedLaws
import Derived.Carry
import Derived.Test.YtpmhiiembbfbeaaLockMayJ1
import Derived.Test.YtpmhiiembbfbeaaLockMayJ2
import Derived.Test.YtpmhiiembbfbeaaLockMayJ3
/- Plain laws of Ask and Drop: what may be, may be behind them. -/
set_option maxRecDepth 100000
set_option linter.all false
namespace Go.Proofs.Ve
open Go
/-! ### modes -/
def ms : List Int := [1, 2, 3, 4, 5]
theorem mIs_mem {m : Int} (h : mIs m = true) : m ∈ ms := by
  rcases mIs_cases h with rfl | rfl | rfl | rfl | rfl <;> decide
theorem join_tab : ∀ a ∈ ms, ∀ b ∈ ms, (mIs (mJoin a b) && (mCovers (mJoin a b) a && mCovers (mJoin a b) b)) = true := by decide
theorem fits_tab : ∀ y ∈ ms, ∀ a ∈ ms, ∀ b ∈ ms, (!mCovers a b || (!mFits y a || mFits y b)) = true := by decide
theorem flip_tab : ∀ a ∈ ms, ∀ b ∈ ms, (mFits a b == mFits b a) = true := by decide
theorem covers_is {a b : Int} (h : mCovers a b = true) : mIs a = true ∧ mIs b = true := by
  unfold mCovers at h
  cases ha : mIs a <;> cases hb : mIs b <;> simp_all
theorem join_is {a b : Int} (ha : mIs a = true) (hb : mIs b = true) : mIs (mJoin a b) = true ∧ mCovers (mJoin a b) a = true ∧ mCovers (mJoin a b) b = true := by
  have := join_tab a (mIs_mem ha) b (mIs_mem hb)
  simpa using this
theorem fits_is {a b : Int} (h : mFits a b = true) : mIs a = true ∧ mIs b = true := by
  unfold mFits at h
  cases ha : mIs a <;> cases hb : mIs b <;> simp_all
theorem fits_cov {y a b : Int} (hc : mCovers a b = true) (h : mFits y a = true) : mFits y b = true := by
  have := fits_tab y (mIs_mem (fits_is h).1) a (mIs_mem (covers_is hc).1) b (mIs_mem (covers_is hc).2)
  rw [hc, h] at this; simpa using this
theorem fits_flip (a b : Int) : mFits a b = mFits b a := by
  cases ha : mIs a with
  | false => unfold mFits; rw [ha]; simp
  | true =>
    cases hb : mIs b with
    | false => unfold mFits; rw [hb]; simp
    | true => simpa using flip_tab a (mIs_mem ha) b (mIs_mem hb)
/-! ### clashes -/
theorem meets_flip (a b : Span) : sMeets a b = sMeets b a := by
  rw [meets_eq, meets_eq]
  unfold rMeets
  cases h : (a.t == b.t) with
  | false => rw [show (b.t == a.t) = false by rw [Bool.beq_comm]; exact h]; rfl
  | true =>
    have : a.t = b.t := by simpa using h
    rw [show (b.t == a.t) = true by rw [Bool.beq_comm]; exact h, this]
    simp [Bool.or_comm]
theorem clash_flip (a b : Lock) : lClash a b = lClash b a := by
  unfold lClash
  have e1 : (a.owner == b.owner) = (b.owner == a.owner) := Bool.beq_comm
  have e2 : (a.span.t != b.span.t) = (b.span.t != a.span.t) := by unfold bne; rw [Bool.beq_comm]
  have e3 : (a.whole == b.whole) = (b.whole == a.whole) := Bool.beq_comm
  rw [meets_flip a.span b.span, e1, e2, e3, fits_flip a.mode b.mode, Bool.or_comm (a.mode == 5)]
  cases h : (b.owner == a.owner || (b.span.t != a.span.t || !(b.whole == a.whole))) with
  | true => rw [if_pos rfl, if_pos rfl]
  | false =>
    have : a.whole = b.whole := by simp at h; exact h.2.2.symm
    rw [this]
/-- At least as much, of one owner. -/
def covL (a b : Lock) : Prop := a = b ∨ (a.whole = true ∧ b.whole = true ∧ a.owner = b.owner ∧ a.span.t = b.span.t ∧ mCovers a.mode b.mode = true)
theorem clash_cov {a b z : Lock} (h : covL a b) (hc : lClash z b = true) : lClash z a = true := by
  rcases h with rfl | ⟨h1, h2, h3, h4, h5⟩
  · exact hc
  · unfold lClash at hc ⊢
    rw [h1, h3, h4]
    rw [h2] at hc
    cases hz : z.whole with
    | false => rw [hz] at hc; simp at hc
    | true =>
      rw [hz] at hc
      split at hc
      · cases hc
      · next hn =>
        rw [if_neg hn]
        simp only [if_true] at hc ⊢
        cases hf : mFits z.mode a.mode with
        | false => rfl
        | true => rw [fits_cov h5 hf] at hc; cases hc
theorem clash_cov' {a b z : Lock} (h : covL a b) (hc : lClash b z = true) : lClash a z = true := by
  rw [clash_flip] at hc ⊢; exact clash_cov h hc
/-! ### what Check says -/
structure Ok (l : Locks) : Prop where
  size : l.held.length + l.queue.length ≤ 40
  may1 : ∀ y ∈ l.held, lMay y = true
  may2 : ∀ y ∈ l.queue, lMay y = true
  own : l.queue.Pairwise fun a b => a.owner ≠ b.owner
  wait : ∀ (k : Nat) y, l.queue[k]? = some y → ∃ z ∈ l.held ++ l.queue.take k, lClash z y = true
  single : l.held.Pairwise fun a b => lTwice b a = false
  weak : ∀ y ∈ l.queue, ∀ h ∈ l.held, lWeak y h = false
theorem ahead_pos (l : Locks) (x : Lock) (k : Nat) : decide (((lAhead l x k).length : Int) > 0) = (l.held ++ l.queue.take k).any fun z => lClash z x := by
  rw [Bool.eq_iff_iff, List.any_eq_true, decide_eq_true_eq]
  have hm : ∀ z, z ∈ lAhead l x k ↔ z ∈ aheadOf x (l.held ++ l.queue.take k) := fun z => once_mem _ z
  constructor
  · intro h
    obtain ⟨z, hz⟩ : ∃ z, z ∈ lAhead l x k := by
      cases hl : lAhead l x k with
      | nil => rw [hl] at h; simp at h
      | cons a l2 => exact ⟨a, List.mem_cons_self ..⟩
    rw [hm] at hz
    unfold aheadOf at hz
    obtain ⟨w, hw, rfl⟩ := List.mem_map.1 hz
    exact ⟨w, (List.mem_filter.1 hw).1, (List.mem_filter.1 hw).2⟩
  · rintro ⟨w, hw, hc⟩
    have : w.owner ∈ lAhead l x k := (hm _).2 (List.mem_map.2 ⟨w, List.mem_filter.2 ⟨hw, hc⟩, rfl⟩)
    have := List.length_pos_of_mem this
    omega
theorem single_iff : ∀ (xs pre : List Lock), singleFrom pre xs = true ↔ (∀ x ∈ xs, ∀ y ∈ pre, lTwice x y = false) ∧ xs.Pairwise fun a b => lTwice b a = false
  | [], pre => by simp [singleFrom]
  | x :: xs, pre => by
    rw [singleFrom, List.pairwise_cons]
    cases h : pre.any (lTwice x) with
    | true =>
      simp only [cond_true, Bool.false_eq_true, false_iff]
      rintro ⟨h1, _⟩
      obtain ⟨y, hy, hxy⟩ := List.any_eq_true.1 h
      rw [h1 x (List.mem_cons_self ..) y hy] at hxy; cases hxy
    | false =>
      rw [cond_false, single_iff xs (pre ++ [x])]
      have h0 : ∀ y ∈ pre, lTwice x y = false := fun y hy => by
        cases hxy : lTwice x y with
        | false => rfl
        | true => rw [List.any_eq_true.2 ⟨y, hy, hxy⟩] at h; cases h
      constructor
      · rintro ⟨h1, h2⟩
        refine ⟨fun z hz y hy => ?_, fun z hz => h1 z hz x (by simp), h2⟩
        rcases List.mem_cons.1 hz with rfl | hz
        · exact h0 y hy
        · exact h1 z hz y (by simp [hy])
      · rintro ⟨h1, h2, h3⟩
        refine ⟨fun z hz y hy => ?_, h3⟩
        rcases List.mem_append.1 hy with hy | hy
        · exact h1 z (List.mem_cons_of_mem _ hz) y hy
        · rw [List.mem_singleton.1 hy]; exact h2 z hz
theorem lQ_iff (l : Locks) : ∀ (xs : List Lock) (k : Nat), lQ l xs k = true ↔ ∀ (i : Nat) y, xs[i]? = some y → lQok l y (k + i) = true
  | [], k => by simp [lQ]
  | x :: xs, k => by
    rw [lQ]
    cases h : lQok l x k with
    | false =>
      simp only [cond_false, Bool.false_eq_true, false_iff]
      intro hn
      have := hn 0 x rfl
      rw [Nat.add_zero, h] at this; cases this
    | true =>
      rw [cond_true, lQ_iff l xs (k + 1)]
      constructor
      · intro h1 i y hy
        cases i with
        | zero => simp at hy; subst hy; exact h
        | succ i => have := h1 i y (by simpa using hy); rwa [show k + 1 + i = k + (i + 1) by omega] at this
      · intro h1 i y hy
        have := h1 (i + 1) y (by simpa using hy)
        rwa [show k + (i + 1) = k + 1 + i by omega] at this
theorem qok_iff {l : Locks} {y : Lock} {k : Nat} (h : l.queue[k]? = some y) : lQok l y k = true ↔ (∀ z ∈ l.queue.take k, z.owner ≠ y.owner) ∧ ∃ z ∈ l.held ++ l.queue.take k, lClash z y = true := by
  have hk := (List.getElem?_eq_some_iff.1 h).1
  have hy := (List.getElem?_eq_some_iff.1 h).2
  have hsplit : l.queue = l.queue.take k ++ y :: l.queue.drop (k + 1) := by
    rw [← hy, ← List.drop_eq_getElem_cons hk, List.take_append_drop]
  have hp := place_new (l.queue.take k) y (l.queue.drop (k + 1))
  rw [← hsplit, List.length_take, Nat.min_eq_left (by omega)] at hp
  unfold lQok
  rw [hp, ahead_pos, Bool.and_eq_true, List.any_eq_true]
  constructor
  · rintro ⟨h1, h2⟩
    refine ⟨fun z hz he => ?_, h2⟩
    have : ((l.queue.take k).any fun z => z.owner == y.owner) = true := List.any_eq_true.2 ⟨z, hz, by simpa using he⟩
    rw [this] at h1; cases h1
  · rintro ⟨h1, h2⟩
    refine ⟨?_, h2⟩
    cases ha : (l.queue.take k).any (fun z => z.owner == y.owner) with
    | false => rfl
    | true =>
      obtain ⟨z, hz, he⟩ := List.any_eq_true.1 ha
      exact absurd (by simpa using he) (h1 z hz)
theorem own_iff (l : List Lock) : (l.Pairwise fun a b => a.owner ≠ b.owner) ↔ ∀ (k : Nat) y, l[k]? = some y → ∀ z ∈ l.take k, z.owner ≠ y.owner := by
  rw [List.pairwise_iff_getElem]
  constructor
  · intro h k y hy z hz
    obtain ⟨i, hi, rfl⟩ := List.mem_iff_getElem.1 hz
    rw [List.length_take] at hi
    obtain ⟨hk, rfl⟩ := List.getElem?_eq_some_iff.1 hy
    rw [List.getElem_take]
    exact h i k (by omega) hk (by omega)
  · intro h i j hi hj hij
    refine h j l[j] (List.getElem?_eq_getElem hj) _ (List.mem_iff_getElem.2 ⟨i, by rw [List.length_take]; omega, ?_⟩)
    rw [List.getElem_take]
theorem check_iff (l : Locks) : lCheck l = true ↔ Ok l := by
  unfold lCheck
  simp only [Bool.and_eq_true, Bool.not_eq_true', Bool.or_eq_false_iff, decide_eq_false_iff_not]
  have any1 : ∀ l : List Lock, (l.any fun x => !lMay x) = false ↔ ∀ y ∈ l, lMay y = true := fun l => by
    rw [List.any_eq_false]; simp
  have any2 : (l.queue.any fun x => l.held.any (lWeak x)) = false ↔ ∀ y ∈ l.queue, ∀ h ∈ l.held, lWeak y h = false := by
    rw [List.any_eq_false]; simp
  rw [any1, any1, any2, single_iff, lQ_iff]
  constructor
  · rintro ⟨⟨h1, h2, h3⟩, h4, ⟨_, h5⟩, h6⟩
    have h4 := fun k y (hy : l.queue[k]? = some y) => (qok_iff hy).1 (by have := h4 k y hy; rwa [Nat.zero_add] at this)
    exact ⟨by omega, h2, h3, (own_iff _).2 fun k y hy => (h4 k y hy).1, fun k y hy => (h4 k y hy).2, h5, h6⟩
  · rintro ⟨h1, h2, h3, h4, h5, h6, h7⟩
    refine ⟨⟨by omega, h2, h3⟩, fun i y hy => ?_, ⟨fun _ _ y hy => (by cases hy), h6⟩, h7⟩
    rw [Nat.zero_add]
    exact (qok_iff hy).2 ⟨(own_iff _).1 h4 i y hy, h5 i y hy⟩
/-! ### one more -/
theorem idxOf_neg {α : Type} (p : α → Bool) : ∀ (l : List α) (k : Int), 0 ≤ k → ¬ idxOf p l k ≥ 0 → ∀ y ∈ l, p y = false
  | [], k, hk, h => fun y hy => by cases hy
  | x :: l, k, hk, h => fun y hy => by
    cases hx : p x with
    | true => rw [idxOf, hx] at h; exact absurd hk h
    | false =>
      rw [idxOf, hx] at h
      rcases List.mem_cons.1 hy with rfl | hy
      · exact hx
      · exact idxOf_neg p l (k + 1) (by omega) h y hy
theorem may_mode {x : Lock} (h : lMay x = true) (hw : x.whole = true) : mIs x.mode = true := by
  unfold lMay at h
  split at h
  · cases h
  · simp only [Bool.and_eq_true] at h; exact (covers_is h.2).1
theorem may_with {x : Lock} (h : lMay x = true) (hw : x.whole = true) {m : Int} (hm : mIs m = true) : lMay { x with mode := m } = true := by
  unfold lMay at h ⊢
  dsimp only at h ⊢
  split at h
  · cases h
  · next hn =>
    rw [if_neg hn]
    rw [hw]
    simp only [if_true, Bool.and_eq_true] at h ⊢
    exact ⟨h.1, by rw [covers_self]; exact hm⟩
theorem may_owner {x : Lock} (h : lMay x = true) : 0 ≤ x.owner ∧ x.owner < 4 := by
  unfold lMay at h
  split at h
  · cases h
  · next hn => simp at hn; omega
theorem may_small {x : Lock} (h : lMay x = true) : x.span.lo.length ≤ 17 ∧ x.span.hi.length ≤ 17 := by
  unfold lMay at h
  split at h
  · cases h
  · next hn =>
    simp at hn
    have := hn.2.2
    unfold sCheck at this
    simp at this
    omega
theorem twice_whole {x y : Lock} (h : lWholeP x y = true) : lTwice x y = true := by
  unfold lWholeP at h; unfold lTwice
  simp at h ⊢
  exact .inr ⟨⟨⟨h.1.1.1, h.1.1.2⟩, h.1.2.symm⟩, h.2.symm⟩
theorem twice_of {x y : Lock} (h1 : lClash x y = false) (h2 : lWholeP x y = false) : lTwice x y = false := by
  unfold lWholeP at h2; unfold lTwice
  rw [h1]
  rw [show (x.owner == y.owner) = (y.owner == x.owner) from Bool.beq_comm, show (x.span.t == y.span.t) = (y.span.t == x.span.t) from Bool.beq_comm, h2]; rfl
theorem whole_flip {x y : Lock} (h : lWholeP x y = true) : lWholeP y x = true := by
  unfold lWholeP at h ⊢; simp at h ⊢
  exact ⟨⟨⟨h.1.1.2, h.1.1.1⟩, h.1.2.symm⟩, h.2.symm⟩
theorem whole_trans {x y z : Lock} (h : lWholeP x y = true) (k : lWholeP y z = true) : lWholeP x z = true := by
  unfold lWholeP at h k ⊢; simp at h k ⊢
  exact ⟨⟨⟨h.1.1.1, k.1.1.2⟩, k.1.2.trans h.1.2⟩, k.2.trans h.2⟩
/-- Held once, beside others. -/
structure HoldOk (L : List Lock) (x : Lock) (R : List Lock) : Prop where
  mem : ∀ z ∈ R, z = x ∨ z ∈ L
  has : x ∈ R
  cov : ∀ z ∈ L, ∃ z' ∈ R, covL z' z
  single : R.Pairwise fun a b => lTwice b a = false
  len : R.length ≤ L.length + 1
theorem hold_ok {L : List Lock} {x : Lock} (hs : L.Pairwise fun a b => lTwice b a = false) (hc : ∀ z ∈ L, lClash z x = false) (hm : ∀ z ∈ L, lWholeP x z = true → mCovers x.mode z.mode = true) : HoldOk L x (holdL L x) := by
  have hc' : ∀ z ∈ L, lClash x z = false := fun z hz => by rw [clash_flip]; exact hc z hz
  unfold holdL
  split
  · next h =>
    obtain ⟨h0, y, hy, hp⟩ := idxOf_lt (lWholeP x) L 0 (Int.le_refl _) h
    rw [show idxOf (lWholeP x) L 0 = lWhole L x from rfl, Int.sub_zero] at hy
    generalize (lWhole L x).toNat = i at hy ⊢
    have hi := (List.getElem?_eq_some_iff.1 hy).1
    have hyi := (List.getElem?_eq_some_iff.1 hy).2
    have other : ∀ (j : Nat) (hj : j < L.length), j ≠ i → lWholeP x L[j] = false := fun j hj hne => by
      cases hpj : lWholeP x L[j] with
      | false => rfl
      | true =>
        have h1 : lWholeP L[j] L[i] = true := whole_trans (whole_flip hpj) (by rw [hyi]; exact hp)
        have h2 : lWholeP L[i] L[j] = true := whole_flip h1
        rw [List.pairwise_iff_getElem] at hs
        rcases Nat.lt_or_gt_of_ne hne with hlt | hlt
        · have := hs j i hj hi hlt
          rw [twice_whole h2] at this; cases this
        · have := hs i j hi hj hlt
          rw [twice_whole h1] at this; cases this
    refine ⟨fun z hz => ?_, ?_, fun z hz => ?_, ?_, by simp⟩
    · rcases List.mem_or_eq_of_mem_set hz with h | h
      · exact .inr h
      · exact .inl h
    · exact List.mem_iff_getElem.2 ⟨i, by simpa using hi, by simp⟩
    · obtain ⟨j, hj, rfl⟩ := List.mem_iff_getElem.1 hz
      by_cases hji : j = i
      · subst hji
        refine ⟨x, List.mem_iff_getElem.2 ⟨j, by simpa using hj, by simp⟩, .inr ?_⟩
        have hp' : lWholeP x L[j] = true := by rw [hyi]; exact hp
        have hm' := hm _ (List.getElem_mem hj) hp'
        unfold lWholeP at hp'
        simp at hp'
        exact ⟨hp'.1.1.1, hp'.1.1.2, hp'.1.2.symm, hp'.2.symm, hm'⟩
      · exact ⟨L[j], List.mem_iff_getElem.2 ⟨j, by simpa using hj, by rw [List.getElem_set]; rw [if_neg (Ne.symm hji)]⟩, .inl rfl⟩
    · rw [List.pairwise_iff_getElem] at hs ⊢
      intro a b ha hb hab
      rw [List.length_set] at ha hb
      rw [List.getElem_set, List.getElem_set]
      by_cases hai : i = a
      · rw [if_pos hai, if_neg (by omega)]
        exact twice_of (hc _ (List.getElem_mem hb)) (by
          cases hw : lWholeP L[b] x with
          | false => rfl
          | true => have := other b hb (by omega); rw [whole_flip hw] at this; cases this)
      · rw [if_neg hai]
        by_cases hbi : i = b
        · rw [if_pos hbi]
          exact twice_of (hc' _ (List.getElem_mem ha)) (other a ha (by omega))
        · rw [if_neg hbi]; exact hs a b ha hb hab
  · next h =>
    have hn := idxOf_neg (lWholeP x) L 0 (Int.le_refl _) h
    refine ⟨fun z hz => ?_, by simp, fun z hz => ⟨z, by simp [hz], .inl rfl⟩, ?_, by simp⟩
    · rcases List.mem_append.1 hz with h | h
      · exact .inr h
      · exact .inl (by simpa using h)
    · rw [List.pairwise_append]
      refine ⟨hs, List.pairwise_singleton _ _, fun a ha b hb => ?_⟩
      rw [List.mem_singleton.1 hb]
      exact twice_of (hc' a ha) (hn a ha)
def push (s : Locks) (x : Lock) : Locks := if decide (((lAhead s x s.queue.length).length : Int) > 0) then ⟨s.held, s.queue ++ [x]⟩ else ⟨holdL s.held x, s.queue⟩
theorem ahead_all (s : Locks) (x : Lock) : decide (((lAhead s x s.queue.length).length : Int) > 0) = (s.held ++ s.queue).any fun z => lClash z x := by
  rw [ahead_pos, List.take_length]
theorem weak_cov {x h : Lock} (hw : lWeak x h = false) (hp : lWholeP x h = true) : mCovers x.mode h.mode = true := by
  unfold lWeak at hw; unfold lWholeP at hp
  simp at hw hp
  exact hw hp.1.1.1 hp.1.1.2 hp.1.2.symm hp.2.symm
theorem push_ok {s : Locks} {x : Lock} (h : Ok s) (hm : lMay x = true) (ho : ∀ y ∈ s.queue, y.owner ≠ x.owner) (hw : ∀ y ∈ s.held, lWeak x y = false) (hz : s.held.length + s.queue.length < 40) :
    Ok (push s x) ∧ (∀ y ∈ (push s x).held, y = x ∨ y ∈ s.held) ∧ (∀ y ∈ (push s x).queue, y = x ∨ y ∈ s.queue) ∧ (push s x).held.length + (push s x).queue.length ≤ s.held.length + s.queue.length + 1 := by
  unfold push
  rw [ahead_all]
  cases ha : (s.held ++ s.queue).any (fun z => lClash z x) with
  | true =>
    rw [if_pos rfl]
    refine ⟨⟨by simp; omega, h.may1, ?_, ?_, ?_, h.single, ?_⟩, fun y hy => .inr hy, ?_, by simp; omega⟩
    · intro y hy
      rcases List.mem_append.1 hy with hy | hy
      · exact h.may2 y hy
      · rw [List.mem_singleton.1 hy]; exact hm
    · show (s.queue ++ [x]).Pairwise _
      rw [List.pairwise_append]
      exact ⟨h.own, List.pairwise_singleton _ _, fun a ha b hb => by rw [List.mem_singleton.1 hb]; exact ho a ha⟩
    · intro k y hy
      show ∃ z ∈ s.held ++ (s.queue ++ [x]).take k, lClash z y = true
      change (s.queue ++ [x])[k]? = some y at hy
      rcases Nat.lt_or_ge k s.queue.length with hk | hk
      · rw [List.getElem?_append_left hk] at hy
        rw [List.take_append_of_le_length (Nat.le_of_lt hk)]
        exact h.wait k y hy
      · rw [List.getElem?_append_right hk] at hy
        have : k = s.queue.length := by
          rcases Nat.lt_or_ge s.queue.length k with h1 | h1
          · rw [List.getElem?_eq_none (by simp; omega)] at hy; cases hy
          · omega
        subst this
        simp at hy
        subst hy
        rw [List.take_append_of_le_length (Nat.le_refl _), List.take_length]
        obtain ⟨z, hz, hc⟩ := List.any_eq_true.1 ha
        exact ⟨z, hz, hc⟩
    · intro y hy
      rcases List.mem_append.1 hy with hy | hy
      · exact h.weak y hy
      · rw [List.mem_singleton.1 hy]; exact hw
    · intro y hy
      rcases List.mem_append.1 hy with hy | hy
      · exact .inr hy
      · exact .inl (List.mem_singleton.1 hy)
  | false =>
    rw [if_neg (by simp)]
    have hno : ∀ z ∈ s.held ++ s.queue, lClash z x = false := fun z hz => by
      cases hc : lClash z x with
      | false => rfl
      | true => rw [List.any_eq_true.2 ⟨z, hz, hc⟩] at ha; cases ha
    have hh := hold_ok h.single (fun z hz => hno z (by simp [hz])) (fun z hz hp => weak_cov (hw z hz) hp)
    refine ⟨⟨by have := hh.len; show (holdL s.held x).length + s.queue.length ≤ 40; omega, ?_, h.may2, h.own, ?_, hh.single, ?_⟩, hh.mem, fun y hy => .inr hy, by have := hh.len; show (holdL s.held x).length + s.queue.length ≤ _; omega⟩
    · intro y hy
      rcases hh.mem y hy with rfl | hy
      · exact hm
      · exact h.may1 y hy
    · intro k y hy
      obtain ⟨z, hz, hc⟩ := h.wait k y hy
      rcases List.mem_append.1 hz with hz | hz
      · obtain ⟨z', hz', hcov⟩ := hh.cov z hz
        exact ⟨z', List.mem_append.2 (.inl hz'), clash_cov' hcov hc⟩
      · exact ⟨z, List.mem_append.2 (.inr hz), hc⟩
    · intro y hy z hz
      rcases hh.mem z hz with rfl | hz
      · have := ho y hy
        unfold lWeak
        rw [show (y.owner == z.owner) = false by simpa using this]
        simp
      · exact h.weak y hy z hz
/-! ### Ask -/
theorem joined_ok {l : Locks} {x : Lock} (h : Ok l) (hm : lMay x = true) :
    covL (lJoined l x) x ∧ lMay (lJoined l x) = true ∧ (lJoined l x).owner = x.owner ∧ (lJoined l x).whole = x.whole ∧ (lJoined l x).span = x.span ∧ (x.whole = false → lJoined l x = x) ∧ ∀ y ∈ l.held, lWeak (lJoined l x) y = false := by
  unfold lJoined
  split
  · next hw =>
    obtain ⟨_, y, hy, hp⟩ := idxOf_lt (lWholeP x) l.held 0 (Int.le_refl _) hw
    rw [show idxOf (lWholeP x) l.held 0 = lWhole l.held x from rfl, Int.sub_zero] at hy
    unfold atMode
    rw [hy]
    dsimp only
    have hyl := List.mem_of_getElem? hy
    have hp' := hp
    unfold lWholeP at hp'
    simp at hp'
    have hxw : x.whole = true := hp'.1.1.1
    have hj := join_is (may_mode hm hxw) (may_mode (h.may1 y hyl) hp'.1.1.2)
    refine ⟨.inr ⟨hxw, hxw, rfl, rfl, hj.2.1⟩, may_with hm hxw hj.1, rfl, rfl, rfl, fun hf => (by rw [hxw] at hf; cases hf), fun z hz => ?_⟩
    cases hzp : lWholeP x z with
    | false =>
      unfold lWeak
      unfold lWholeP at hzp
      dsimp only
      rw [show (x.owner == z.owner) = (z.owner == x.owner) from Bool.beq_comm, show (x.span.t == z.span.t) = (z.span.t == x.span.t) from Bool.beq_comm, hzp]; rfl
    | true =>
      have : z = y := by
        have hzy := whole_trans (whole_flip hzp) hp
        obtain ⟨i, hi, hz'⟩ := List.mem_iff_getElem.1 hz
        obtain ⟨j, hj', hy'⟩ := List.mem_iff_getElem.1 hyl
        have hs := h.single
        rw [List.pairwise_iff_getElem] at hs
        rcases Nat.lt_trichotomy i j with hlt | rfl | hlt
        · have := hs i j hi hj' hlt
          rw [hz', hy', twice_whole (whole_flip hzy)] at this; cases this
        · rw [← hz', ← hy']
        · have := hs j i hj' hi hlt
          rw [hz', hy', twice_whole hzy] at this; cases this
      subst this
      unfold lWeak
      dsimp only
      rw [hj.2.2]; simp
  · next hw =>
    have hn := idxOf_neg (lWholeP x) l.held 0 (Int.le_refl _) hw
    refine ⟨.inl rfl, hm, rfl, rfl, rfl, fun _ => rfl, fun z hz => ?_⟩
    have hzp := hn z hz
    unfold lWeak
    unfold lWholeP at hzp
    rw [show (x.owner == z.owner) = (z.owner == x.owner) from Bool.beq_comm, show (x.span.t == z.span.t) = (z.span.t == x.span.t) from Bool.beq_comm, hzp]; rfl
theorem place_no {l : List Lock} {o : Int} (h : ¬ place l o ≥ 0) : ∀ y ∈ l, y.owner ≠ o := fun y hy he => by
  have := idxOf_neg (fun x : Lock => x.owner == o) l 0 (Int.le_refl _) h y hy
  simp [he] at this
theorem no_place {l : List Lock} {o : Int} (h : ∀ y ∈ l, y.owner ≠ o) : ¬ place l o ≥ 0 := fun hp => by
  obtain ⟨y, hy, ho⟩ := place_at hp
  exact h y (List.mem_of_getElem? hy) ho
theorem waits_iff (l : Locks) (o : Int) : lWaits l o = true ↔ Ok l ∧ ∃ y ∈ l.queue, y.owner = o := by
  unfold lWaits
  rw [Bool.and_eq_true, check_iff, decide_eq_true_eq]
  constructor
  · rintro ⟨h1, h2⟩
    obtain ⟨y, hy, ho⟩ := place_at h2
    exact ⟨h1, y, List.mem_of_getElem? hy, ho⟩
  · rintro ⟨h1, y, hy, ho⟩
    refine ⟨h1, Classical.byContradiction fun hn => place_no hn y hy ho⟩
theorem ask_push (l : Locks) (x : Lock) : lAsk l x = if !lCheck l || (!lMay x || lWaits l x.owner) then (l, 1) else if l.held.any (fun h => lServes h x) then (l, 0) else if decide ((l.held.length : Int) + l.queue.length ≥ 40) then (l, 111)
    else (push l (lJoined l x), if decide (((lAhead l (lJoined l x) l.queue.length).length : Int) > 0) then 110 else 0) := by
  unfold lAsk push
  repeat' split
  all_goals rfl
theorem covers_span (s : Span) : sCovers s s = true := by
  unfold sCovers
  split
  · rfl
  · simp [cmpB_eq, cm_self]
theorem serves_joined {l : Locks} {x : Lock} (h : Ok l) (hm : lMay x = true) : lServes (lJoined l x) x = true := by
  obtain ⟨h1, _, h2, h3, h4, h5, _⟩ := joined_ok h hm
  unfold lServes
  rw [h2, h3, h4]
  cases hw : x.whole with
  | true =>
    simp
    rcases h1 with h1 | h1
    · rw [h1, covers_self]; exact may_mode hm hw
    · exact h1.2.2.2.2
  | false =>
    rw [h5 hw]; simp [covers_span]
/-- What an Ask comes to. -/
theorem ask_ok {l : Locks} (h : Ok l) (x : Lock) : Ok (lAsk l x).1 ∧ (((lAsk l x).2 = 0 ∧ lAsk (lAsk l x).1 x = ((lAsk l x).1, 0)) ∨ ((lAsk l x).2 = 110 ∧ (lAsk (lAsk l x).1 x).2 = 1 ∧ lWaits (lAsk l x).1 x.owner = true) ∨ ((lAsk l x).2 ≠ 0 ∧ (lAsk l x).2 ≠ 110 ∧ (lAsk l x).1 = l)) := by
  have hc := (check_iff l).2 h
  rw [ask_push l x]
  split
  · exact ⟨h, .inr (.inr ⟨fun h => (by cases h), fun h => (by cases h), rfl⟩)⟩
  · next n1 =>
    simp [hc] at n1
    obtain ⟨hm, hw⟩ := n1
    split
    · next hs =>
      refine ⟨h, .inl ⟨rfl, ?_⟩⟩
      show lAsk l x = (l, 0)
      rw [ask_push, hc, hm, hw, if_neg (by simp), if_pos hs]
    · next n2 =>
      split
      · exact ⟨h, .inr (.inr ⟨fun h => (by cases h), fun h => (by cases h), rfl⟩)⟩
      · next n3 =>
        obtain ⟨j1, j2, j3, j4, j5, j6, j7⟩ := joined_ok h hm
        have hnq : ∀ y ∈ l.queue, y.owner ≠ x.owner := fun y hy he => by
          have := (waits_iff l x.owner).2 ⟨h, y, hy, he⟩
          rw [hw] at this; cases this
        obtain ⟨hp, _⟩ := push_ok h j2 (fun y hy => by rw [j3]; exact hnq y hy) j7 (by simp at n3; omega)
        refine ⟨hp, ?_⟩
        dsimp only
        unfold push at hp ⊢
        cases ha : decide (((lAhead l (lJoined l x) l.queue.length).length : Int) > 0) with
        | true =>
          rw [ha] at hp
          have hwt : lWaits ⟨l.held, l.queue ++ [lJoined l x]⟩ x.owner = true := (waits_iff _ _).2 ⟨hp, lJoined l x, by simp, j3⟩
          refine .inr (.inl ⟨rfl, ?_, hwt⟩)
          show (lAsk ⟨l.held, l.queue ++ [lJoined l x]⟩ x).2 = 1
          unfold lAsk
          rw [hwt, if_pos (by simp)]
        | false =>
          rw [ha] at hp
          refine .inl ⟨rfl, ?_⟩
          show lAsk ⟨holdL l.held (lJoined l x), l.queue⟩ x = (_, 0)
          have hp : Ok ⟨holdL l.held (lJoined l x), l.queue⟩ := hp
          have hnw : lWaits ⟨holdL l.held (lJoined l x), l.queue⟩ x.owner = false := by
            cases hq : lWaits ⟨holdL l.held (lJoined l x), l.queue⟩ x.owner with
            | false => rfl
            | true =>
              obtain ⟨_, y, hy, he⟩ := (waits_iff _ _).1 hq
              exact absurd he (hnq y hy)
          rw [ask_push, (check_iff _).2 hp, hm, hnw, if_neg (by simp)]
          have hno : ∀ z ∈ l.held, lClash z (lJoined l x) = false := fun z hz => by
            rw [ahead_all] at ha
            cases hcz : lClash z (lJoined l x) with
            | false => rfl
            | true => rw [List.any_eq_true.2 ⟨z, List.mem_append.2 (.inl hz), hcz⟩] at ha; cases ha
          have hh := hold_ok h.single hno (fun z hz hp => weak_cov (j7 z hz) hp)
          have hsv : lServes (lJoined l x) x = true := serves_joined h hm
          rw [if_pos (List.any_eq_true.2 ⟨lJoined l x, hh.has, hsv⟩)]
          rfl
/-- LockAlone's. -/
theorem ask_alone {l : Locks} (h : Ok l) (x : Lock) (hx : (l.held ++ l.queue).any (fun y => lClash y x) = true) : (lAsk l x).2 ≠ 0 ∨ (lAsk l x).1 = l := by
  rw [ask_push l x]
  split
  · exact .inr rfl
  · next n1 =>
    have hc := (check_iff l).2 h
    simp [hc] at n1
    split
    · exact .inr rfl
    · split
      · exact .inr rfl
      · obtain ⟨j1, _⟩ := joined_ok h n1.1
        obtain ⟨z, hz, hcz⟩ := List.any_eq_true.1 hx
        have hcc : lClash z (lJoined l x) = true := clash_cov j1 hcz
        rw [ahead_all, List.any_eq_true.2 ⟨z, hz, hcc⟩]
        exact .inl (fun h => by cases h)
/-! ### Drop -/
theorem drop_push : dropStep = fun s x => (push s.1 x, if decide (((lAhead s.1 x s.1.queue.length).length : Int) > 0) then s.2 else s.2 ++ [x.owner]) := by
  funext s x
  unfold dropStep push
  split <;> rfl
structure Pre (s : Locks) (rest : List Lock) (o : Int) : Prop where
  ok : Ok s
  size : s.held.length + s.queue.length + rest.length ≤ 40
  may : ∀ y ∈ rest, lMay y = true
  own : (s.queue ++ rest).Pairwise fun a b => a.owner ≠ b.owner
  weak : ∀ y ∈ rest, ∀ h ∈ s.held, lWeak y h = false
  gone : ∀ y ∈ s.held ++ s.queue ++ rest, y.owner ≠ o
theorem pre_fold (o : Int) (M : Lock → Prop) : ∀ (rest : List Lock) (s : Locks) (g : List Int), Pre s rest o → (∀ y ∈ s.held ++ s.queue ++ rest, M y) → Pre (rest.foldl dropStep (s, g)).1 [] o ∧ ∀ y ∈ (rest.foldl dropStep (s, g)).1.held ++ (rest.foldl dropStep (s, g)).1.queue, M y
  | [], s, g, h, hM => ⟨h, fun y hy => hM y (by simpa using hy)⟩
  | x :: rest, s, g, h, hM => by
    rw [List.foldl_cons]
    have hstep : dropStep (s, g) x = (push s x, (dropStep (s, g) x).2) := by rw [drop_push]
    rw [hstep]
    have ho := h.own
    rw [List.pairwise_append] at ho
    obtain ⟨o1, o2, o3⟩ := ho
    rw [List.pairwise_cons] at o2
    have hsz := h.size
    rw [List.length_cons] at hsz
    obtain ⟨k1, k2, k3, k4⟩ := push_ok h.ok (h.may x (List.mem_cons_self ..)) (fun y hy => o3 y hy x (List.mem_cons_self ..)) (h.weak x (List.mem_cons_self ..)) (by omega)
    have hall : ∀ y ∈ (push s x).held ++ (push s x).queue ++ rest, y ∈ s.held ++ s.queue ++ x :: rest := fun y hy => by
      simp only [List.mem_append, List.mem_cons] at hy ⊢
      rcases hy with (hy | hy) | hy
      · rcases k2 y hy with rfl | hy
        · exact .inr (.inl rfl)
        · exact .inl (.inl hy)
      · rcases k3 y hy with rfl | hy
        · exact .inr (.inl rfl)
        · exact .inl (.inr hy)
      · exact .inr (.inr hy)
    refine pre_fold o M rest (push s x) _ ⟨k1, by omega, fun y hy => h.may y (List.mem_cons_of_mem _ hy), ?_, fun y hy z hz => ?_, fun y hy => h.gone y (hall y hy)⟩ (fun y hy => hM y (hall y hy))
    · rw [List.pairwise_append]
      refine ⟨k1.own, o2.2, fun a ha b hb => ?_⟩
      rcases k3 a ha with rfl | ha
      · exact o2.1 b hb
      · exact o3 a ha b (List.mem_cons_of_mem _ hb)
    · rcases k2 z hz with rfl | hz
      · have := o2.1 y hy
        unfold lWeak
        rw [show (y.owner == z.owner) = false by simpa using this.symm]
        simp
      · exact h.weak y (List.mem_cons_of_mem _ hy) z hz
theorem rid_mem {o : Int} {l : List Lock} {y : Lock} (h : y ∈ rid o l) : y ∈ l ∧ y.owner ≠ o := by
  unfold rid at h
  obtain ⟨h1, h2⟩ := List.mem_filter.1 h
  exact ⟨h1, by simpa using h2⟩
/-- What a Drop comes to. -/
theorem drop_ok {l : Locks} (h : Ok l) (o : Int) : Ok (lDrop l o).1 ∧ (∀ y ∈ (lDrop l o).1.held ++ (lDrop l o).1.queue, y ∈ l.held ++ l.queue ∧ (0 ≤ o ∧ o < 4 → y.owner ≠ o)) := by
  unfold lDrop
  rw [(check_iff l).2 h]
  split
  · next hn =>
    refine ⟨h, fun y hy => ⟨hy, fun ho => ?_⟩⟩
    simp at hn; omega
  · have l1 : (rid o l.held).length ≤ l.held.length := List.length_filter_le _ _
    have l2 : (rid o l.queue).length ≤ l.queue.length := List.length_filter_le _ _
    have hsz := h.size
    have hok : Ok ⟨rid o l.held, []⟩ := ⟨by show (rid o l.held).length + 0 ≤ 40; omega, fun y hy => h.may1 y (rid_mem hy).1, fun y hy => (by cases hy), List.Pairwise.nil, fun k y hy => (by simp at hy), h.single.filter _, fun y hy => (by cases hy)⟩
    obtain ⟨h1, h2⟩ := pre_fold o (fun y => y ∈ l.held ++ l.queue) (rid o l.queue) ⟨rid o l.held, []⟩ [] ⟨hok, by show (rid o l.held).length + 0 + (rid o l.queue).length ≤ 40; omega, fun y hy => h.may2 y (rid_mem hy).1, by
        rw [List.nil_append]; exact h.own.filter _, fun y hy z hz => h.weak y (rid_mem hy).1 z (rid_mem hz).1, fun y hy => by
        simp only [List.append_nil, List.mem_append] at hy
        rcases hy with hy | hy <;> exact (rid_mem hy).2⟩ (fun y hy => by
        simp only [List.append_nil, List.mem_append] at hy ⊢
        rcases hy with hy | hy
        · exact .inl (rid_mem hy).1
        · exact .inr (rid_mem hy).1)
    exact ⟨h1.ok, fun y hy => ⟨h2 y hy, fun _ => h1.gone y (by rw [List.append_nil]; exact hy)⟩⟩
/-! ### small -/
theorem ok_small {l : Locks} (h : Ok l) : smallLs l :=
  ⟨by have := h.size; omega, by have := h.size; omega, fun x hx => by have := may_small (h.may1 x hx); exact ⟨by omega, by omega⟩, fun x hx => by have := may_small (h.may2 x hx); exact ⟨by omega, by omega⟩⟩
theorem small_check {l : Locks} (h : lCheck l = true) : smallLs l := ok_small ((check_iff l).1 h)
theorem small_short {x : Lock} (h : short x = true) : smallX x := by
  unfold short at h
  simp at h
  exact ⟨by omega, by omega⟩
theorem ok_empty : Ok ⟨[], []⟩ := ⟨by simp, fun y hy => (by cases hy), fun y hy => (by cases hy), .nil, fun k y hy => (by simp at hy), .nil, fun y hy => (by cases hy)⟩
/-- Who all have gone. -/
theorem all_gone {l : Locks} (h : Ok l) : (lDrop (lDrop (lDrop (lDrop l 0).1 1).1 2).1 3).1 = ⟨[], []⟩ := by
  obtain ⟨a1, a2⟩ := drop_ok h 0
  obtain ⟨b1, b2⟩ := drop_ok a1 1
  obtain ⟨c1, c2⟩ := drop_ok b1 2
  obtain ⟨d1, d2⟩ := drop_ok c1 3
  generalize hr : (lDrop (lDrop (lDrop (lDrop l 0).1 1).1 2).1 3).1 = r at d1 d2 ⊢
  have none : ∀ y ∈ r.held ++ r.queue, False := fun y hy => by
    obtain ⟨m3, n3⟩ := d2 y hy
    obtain ⟨m2, n2⟩ := c2 y m3
    obtain ⟨m1, n1⟩ := b2 y m2
    obtain ⟨m0, n0⟩ := a2 y m1
    have hm : lMay y = true := by
      rcases List.mem_append.1 m0 with hm | hm
      · exact h.may1 y hm
      · exact h.may2 y hm
    have := may_owner hm
    have := n0 (by omega); have := n1 (by omega); have := n2 (by omega); have := n3 (by omega)
    omega
  obtain ⟨rh, rq⟩ := r
  have e1 : rh = [] := List.eq_nil_iff_forall_not_mem.2 fun y hy => none y (List.mem_append.2 (.inl hy))
  have e2 : rq = [] := List.eq_nil_iff_forall_not_mem.2 fun y hy => none y (List.mem_append.2 (.inr hy))
  rw [e1, e2]
end Go.Proofs.Ve

/- LockMay: its body tells true. -/
set_option maxRecDepth 100000
set_option linter.all false
namespace Go.Proofs.Ve
open Go
structure Step where
  x : Lock
  gone : Bool
def cStep (s : Step) : List DV := cLock s.x ++ [.bool s.gone]
def encSteps (l : List Step) : DV := .sl (l.map cStep)
def dropsTo (l : Locks) : Nat → Locks
  | 0 => l
  | j + 1 => (lDrop (dropsTo l j) j).1
theorem drops_ok {l : Locks} (h : Ok l) : ∀ j, Ok (dropsTo l j)
  | 0 => h
  | j + 1 => (drop_ok (drops_ok h j) j).1
theorem c4 (l : List Step) (H : List (List Blk)) : CallEq X H 4 [.d (encSteps l)] (.d (.bool true)) [] := by
  refine callEq_of_body X_ok rfl Try.func4 rfl ?_
  conv => whnf
  refine ⟨_, _, c13 _, True.intro, ?_⟩
  conv => whnf
  refine loopV_of (fun s : Nat × Locks => ⟨[.d (encSteps l), .any, .any, .d (.bool true), .ptr 0 0 0, .d (.int .i64 s.1), .any, .any, .any, .any, .any, .any, .any, .any, .any, .any, .any, .any, .any, .any, .any, .any, .any, .any, .any, .any, .any, .any, .any, .any, .any, .any, .any, .any, .any, .any, .any, .any, .any, .any, .any, .any, .any, .any, .any, .any, .any, .any, .any, .any, .any, .any, .any, .any, .any, .any, .any, .any, .any, .any, .any, .any, .any, .any, .any, .any, .any, .any, .any, .any, .any, .any, .any, .any, .any, .any, .any, .any, .any, .any, .any, .any, .any, .any, .any, .any, .any, .any, .any, .any, .any, .any, .any, .any, .any, .any, .any, .any, .any, .any, .any, .any, .any, .any, .any, .any, .any, .any, .any, .any, .any, .any, .any, .any, .any, .any, .any, .any, .any, .any, .any, .any, .any, .any, .any, .any, .any, .any, .any, .any, .any, .any, .any], [bLocks s.2]⟩) (fun s => s.1 ≤ l.length ∧ Ok s.2) (fun s => l.length - s.1) (0, ⟨[], []⟩) [0] ⟨Nat.zero_le _, ok_empty⟩ ?_ ?_
  · refine And.intro rfl (And.intro ?_ ?_)
    all_goals (repeat' (first | exact True.intro | exact rfl | refine And.intro ?_ ?_))
  · rintro ⟨k, K⟩ ⟨hk, hK⟩
    dsimp only at hk hK
    conv => whnf
    refine And.intro (fun h_ => ?_) (fun h_ => ?_)
    · conv => whnf
      refine And.intro (fun h2_ => ?_) (fun h2_ => ?_)
      · conv => whnf
        have hk' : k < l.length := by simpa using h_
        have hk50 : (k : Int) < 50 := by simpa using h2_
        obtain ⟨s, hs⟩ : ∃ s, l[k]? = some s := ⟨_, List.getElem?_eq_getElem hk'⟩
        have fs : (l.map cStep)[k]? = some (cStep s) := by simp [hs]
        refine ⟨by omega, cStep s, fs, rfl, ?_⟩
        conv => whnf
        refine ⟨_, _, c15 s.x _, True.intro, ?_⟩
        conv => whnf
        have chk : ∀ K', Ok K' → ∀ H, CallEq X H 19 [pLocks K'] (.d (.bool true)) [] := fun K' hK' H => (check_iff K').2 hK' ▸ c19 K' (ok_small hK').1 (ok_small hK').2.1 H
        refine And.intro (fun _ => ?_) (fun hsh => ?_)
        · conv => whnf
          exact ⟨[], rfl, rfl, True.intro⟩
        conv => whnf
        have hsx : smallX s.x := small_short (by simpa using hsh)
        refine And.intro (fun hg => ?_) (fun hg => ?_)
        · conv => whnf
          refine ⟨_, _, c25 K s.x.owner (ok_small hK) _, True.intro, ?_⟩
          conv => whnf
          have hK' := (drop_ok hK s.x.owner).1
          refine ⟨_, _, chk _ hK' _, True.intro, ?_⟩
          conv => whnf
          refine And.intro (fun h => absurd h (by decide)) (fun _ => ?_)
          conv => whnf
          intro z hz
          conv => whnf
          rw [wrap_small (by (first | omega | (dsimp only; omega) | (simp; done) | (simp; omega))) (by (first | omega | (dsimp only; omega) | (simp; done) | (simp; omega)))] at hz
          subst hz
          refine ⟨(k + 1, (lDrop K s.x.owner).1), [0], ⟨by show k + 1 ≤ l.length; omega, hK'⟩, by show l.length - (k + 1) < l.length - k; omega, And.intro rfl (And.intro ?_ ?_)⟩
          all_goals (repeat' (first | exact True.intro | exact rfl | refine And.intro ?_ ?_))
        · conv => whnf
          obtain ⟨hK', hcase⟩ := ask_ok hK s.x
          have a1 := fun H => c26 K s.x (ok_small hK) hsx H
          have a2 := fun H => c26 (lAsk K s.x).1 s.x (ok_small hK') hsx H
          have hK2 := (ask_ok hK' s.x).1
          have w1 := fun H => c23 (lAsk K s.x).1 s.x.owner (ok_small hK').1 (ok_small hK').2.1 H
          have s1 := fun H => c27 (lAsk (lAsk K s.x).1 s.x).1 (lAsk K s.x).1 (Nat.lt_trans (ok_small hK2).1 (by decide)) (Nat.lt_trans (ok_small hK2).2.1 (by decide)) H
          have s2 := fun H => c27 (lAsk K s.x).1 K (Nat.lt_trans (ok_small hK').1 (by decide)) (Nat.lt_trans (ok_small hK').2.1 (by decide)) H
          have key : ((lAsk K s.x).2 = 0 ∧ (lAsk (lAsk K s.x).1 s.x).2 = 0 ∧ (sameLs (lAsk (lAsk K s.x).1 s.x).1.held (lAsk K s.x).1.held && sameLs (lAsk (lAsk K s.x).1 s.x).1.queue (lAsk K s.x).1.queue) = true)
              ∨ ((lAsk K s.x).2 = 110 ∧ (lAsk (lAsk K s.x).1 s.x).2 = 1 ∧ lWaits (lAsk K s.x).1 s.x.owner = true)
              ∨ ((lAsk K s.x).2 ≠ 0 ∧ (lAsk K s.x).2 ≠ 110 ∧ (sameLs (lAsk K s.x).1.held K.held && sameLs (lAsk K s.x).1.queue K.queue) = true) := by
            rcases hcase with ⟨e1, e2⟩ | ⟨e1, e2, e3⟩ | ⟨e1, e2, e3⟩
            · exact .inl ⟨e1, by rw [e2], by rw [e2]; simp [sameLs_self]⟩
            · exact .inr (.inl ⟨e1, e2, e3⟩)
            · exact .inr (.inr ⟨e1, e2, by rw [e3]; simp [sameLs_self]⟩)
          clear hcase
          obtain ⟨e, he⟩ : ∃ e, e = (lAsk K s.x).2 := ⟨_, rfl⟩
          obtain ⟨f, hf⟩ : ∃ f, f = (lAsk (lAsk K s.x).1 s.x).2 := ⟨_, rfl⟩
          have a1 : ∀ H, CallEq X H 26 [pLocks K, pLock s.x] (.tuple [pLocks (lAsk K s.x).1, .d (.int .i64 e)]) [] := fun H => he ▸ a1 H
          have a2 : ∀ H, CallEq X H 26 [pLocks (lAsk K s.x).1, pLock s.x] (.tuple [pLocks (lAsk (lAsk K s.x).1 s.x).1, .d (.int .i64 f)]) [] := fun H => hf ▸ a2 H
          rw [← he, ← hf] at key
          clear he hf
          rcases key with ⟨rfl, rfl, k3⟩ | ⟨rfl, rfl, k3⟩ | ⟨k1, k2, k3⟩
          · rw [k3] at s1
            refine ⟨_, _, a1 _, True.intro, ?_⟩
            conv => whnf
            refine ⟨_, _, a2 _, True.intro, ?_⟩
            conv => whnf
            repeat' (first
              | (refine And.intro (fun h => ?_) (fun h => ?_) <;> first | (exfalso; revert h; decide; done) | (conv => whnf))
              | (refine ⟨_, _, s1 _, True.intro, ?_⟩; conv => whnf)
              | (refine ⟨_, _, s2 _, True.intro, ?_⟩; conv => whnf)
              | (refine ⟨_, _, w1 _, True.intro, ?_⟩; conv => whnf)
              | (refine ⟨_, _, chk _ hK' _, True.intro, ?_⟩; conv => whnf))
            intro z hz
            conv => whnf
            rw [wrap_small (by (first | omega | (dsimp only; omega) | (simp; done) | (simp; omega))) (by (first | omega | (dsimp only; omega) | (simp; done) | (simp; omega)))] at hz
            subst hz
            refine ⟨(k + 1, (lAsk K s.x).1), [0], ⟨by show k + 1 ≤ l.length; omega, hK'⟩, by show l.length - (k + 1) < l.length - k; omega, And.intro rfl (And.intro ?_ ?_)⟩
            all_goals (repeat' (first | exact True.intro | exact rfl | refine And.intro ?_ ?_))
          · rw [k3] at w1
            refine ⟨_, _, a1 _, True.intro, ?_⟩
            conv => whnf
            refine ⟨_, _, a2 _, True.intro, ?_⟩
            conv => whnf
            repeat' (first
              | (refine And.intro (fun h => ?_) (fun h => ?_) <;> first | (exfalso; revert h; decide; done) | (conv => whnf))
              | (refine ⟨_, _, s1 _, True.intro, ?_⟩; conv => whnf)
              | (refine ⟨_, _, s2 _, True.intro, ?_⟩; conv => whnf)
              | (refine ⟨_, _, w1 _, True.intro, ?_⟩; conv => whnf)
              | (refine ⟨_, _, chk _ hK' _, True.intro, ?_⟩; conv => whnf))
            intro z hz
            conv => whnf
            rw [wrap_small (by (first | omega | (dsimp only; omega) | (simp; done) | (simp; omega))) (by (first | omega | (dsimp only; omega) | (simp; done) | (simp; omega)))] at hz
            subst hz
            refine ⟨(k + 1, (lAsk K s.x).1), [0], ⟨by show k + 1 ≤ l.length; omega, hK'⟩, by show l.length - (k + 1) < l.length - k; omega, And.intro rfl (And.intro ?_ ?_)⟩
            all_goals (repeat' (first | exact True.intro | exact rfl | refine And.intro ?_ ?_))
          · rw [k3] at s2
            refine ⟨_, _, a1 _, True.intro, ?_⟩
            conv => whnf
            refine ⟨_, _, a2 _, True.intro, ?_⟩
            conv => whnf
            repeat' (first
              | (refine And.intro (fun h => ?_) (fun h => ?_) <;> first | (exfalso; revert h; simp [k1, k2]; done) | (conv => whnf))
              | (refine ⟨_, _, s1 _, True.intro, ?_⟩; conv => whnf)
              | (refine ⟨_, _, s2 _, True.intro, ?_⟩; conv => whnf)
              | (refine ⟨_, _, w1 _, True.intro, ?_⟩; conv => whnf)
              | (refine ⟨_, _, chk _ hK' _, True.intro, ?_⟩; conv => whnf))
            intro z hz
            conv => whnf
            rw [wrap_small (by (first | omega | (dsimp only; omega) | (simp; done) | (simp; omega))) (by (first | omega | (dsimp only; omega) | (simp; done) | (simp; omega)))] at hz
            subst hz
            refine ⟨(k + 1, (lAsk K s.x).1), [0], ⟨by show k + 1 ≤ l.length; omega, hK'⟩, by show l.length - (k + 1) < l.length - k; omega, And.intro rfl (And.intro ?_ ?_)⟩
            all_goals (repeat' (first | exact True.intro | exact rfl | refine And.intro ?_ ?_))
      · conv => whnf
        refine loopV_of (fun j : Nat => ⟨[.any, .any, .any, .d (.bool true), .ptr 0 0 0, .any, .any, .any, .any, .any, .any, .any, .any, .any, .d (.int .i64 j), .any, .any, .any, .any, .any, .any, .any, .any, .any, .any, .any, .any, .any, .any, .any, .any, .any, .any, .any, .any, .any, .any, .any, .any, .any, .any, .any, .any, .any, .any, .any, .any, .any, .any, .any, .any, .any, .any, .any, .any, .any, .any, .any, .any, .any, .any, .any, .any, .any, .any, .any, .any, .any, .any, .any, .any, .any, .any, .any, .any, .any, .any, .any, .any, .any, .any, .any, .any, .any, .any, .any, .any, .any, .any, .any, .any, .any, .any, .any, .any, .any, .any, .any, .any, .any, .any, .any, .any, .any, .any, .any, .any, .any, .any, .any, .any, .any, .any, .any, .any, .any, .any, .any, .any, .any, .any, .any, .any, .any, .any, .any, .any, .any, .any, .any, .any, .any, .any], [bLocks (dropsTo K j)]⟩) (fun j => j ≤ 4) (fun j => 4 - j) 0 [0] (Nat.zero_le _) ?_ ?_
        · refine And.intro rfl (And.intro ?_ ?_)
          all_goals (repeat' (first | exact True.intro | exact rfl | refine And.intro ?_ ?_))
        · intro j hj
          conv => whnf
          have hKj := drops_ok hK j
          refine And.intro (fun hj_ => ?_) (fun hj_ => ?_)
          · conv => whnf
            have hj' : (j : Int) < 4 := by simpa using hj_
            refine ⟨_, _, c25 (dropsTo K j) j (ok_small hKj) _, True.intro, ?_⟩
            conv => whnf
            intro z hz
            conv => whnf
            rw [wrap_small (by (first | omega | (dsimp only; omega) | (simp; done) | (simp; omega))) (by (first | omega | (dsimp only; omega) | (simp; done) | (simp; omega)))] at hz
            subst hz
            refine ⟨j + 1, [0], by omega, by omega, And.intro rfl (And.intro ?_ ?_)⟩
            all_goals (repeat' (first | exact True.intro | exact rfl | refine And.intro ?_ ?_))
          · conv => whnf
            have hj' : j = 4 := by simp at hj_; omega
            subst hj'
            have hgone : dropsTo K 4 = ⟨[], []⟩ := all_gone hK
            rw [hgone]
            conv => whnf
            repeat' (first
              | (refine And.intro (fun h => ?_) (fun h => ?_) <;> first | (exfalso; revert h; decide; done) | (conv => whnf)))
            exact ⟨[], rfl, rfl, True.intro⟩
    · conv => whnf
      refine loopV_of (fun j : Nat => ⟨[.any, .any, .any, .d (.bool true), .ptr 0 0 0, .any, .any, .any, .any, .any, .any, .any, .any, .any, .d (.int .i64 j), .any, .any, .any, .any, .any, .any, .any, .any, .any, .any, .any, .any, .any, .any, .any, .any, .any, .any, .any, .any, .any, .any, .any, .any, .any, .any, .any, .any, .any, .any, .any, .any, .any, .any, .any, .any, .any, .any, .any, .any, .any, .any, .any, .any, .any, .any, .any, .any, .any, .any, .any, .any, .any, .any, .any, .any, .any, .any, .any, .any, .any, .any, .any, .any, .any, .any, .any, .any, .any, .any, .any, .any, .any, .any, .any, .any, .any, .any, .any, .any, .any, .any, .any, .any, .any, .any, .any, .any, .any, .any, .any, .any, .any, .any, .any, .any, .any, .any, .any, .any, .any, .any, .any, .any, .any, .any, .any, .any, .any, .any, .any, .any, .any, .any, .any, .any, .any, .any], [bLocks (dropsTo K j)]⟩) (fun j => j ≤ 4) (fun j => 4 - j) 0 [0] (Nat.zero_le _) ?_ ?_
      · refine And.intro rfl (And.intro ?_ ?_)
        all_goals (repeat' (first | exact True.intro | exact rfl | refine And.intro ?_ ?_))
      · intro j hj
        conv => whnf
        have hKj := drops_ok hK j
        refine And.intro (fun hj_ => ?_) (fun hj_ => ?_)
        · conv => whnf
          have hj' : (j : Int) < 4 := by simpa using hj_
          refine ⟨_, _, c25 (dropsTo K j) j (ok_small hKj) _, True.intro, ?_⟩
          conv => whnf
          intro z hz
          conv => whnf
          rw [wrap_small (by (first | omega | (dsimp only; omega) | (simp; done) | (simp; omega))) (by (first | omega | (dsimp only; omega) | (simp; done) | (simp; omega)))] at hz
          subst hz
          refine ⟨j + 1, [0], by omega, by omega, And.intro rfl (And.intro ?_ ?_)⟩
          all_goals (repeat' (first | exact True.intro | exact rfl | refine And.intro ?_ ?_))
        · conv => whnf
          have hj' : j = 4 := by simp at hj_; omega
          subst hj'
          have hgone : dropsTo K 4 = ⟨[], []⟩ := all_gone hK
          rw [hgone]
          conv => whnf
          repeat' (first
            | (refine And.intro (fun h => ?_) (fun h => ?_) <;> first | (exfalso; revert h; decide; done) | (conv => whnf)))
          exact ⟨[], rfl, rfl, True.intro⟩
end Go.Proofs.Ve

/- The seat's types, as plain data: steps. -/
set_option maxRecDepth 100000
set_option linter.all false
namespace Go.Proofs.Ve
open Go
def ctStep : List CT := ctLock ++ [.bool]
theorem FitR.split {a b : List CT} {x : List DV} (h : FitR (a ++ b) x) : ∃ y z, x = y ++ z ∧ FitR a y ∧ FitR b z := by
  obtain ⟨h1, h2⟩ := h
  rw [List.length_append] at h1
  refine ⟨x.take a.length, x.drop a.length, (List.take_append_drop _ _).symm, ⟨by rw [List.length_take]; omega, fun j c y hc hy => ?_⟩, ⟨by rw [List.length_drop]; omega, fun j c y hc hy => ?_⟩⟩
  · have hj := (List.getElem?_eq_some_iff.1 hc).1
    rw [List.getElem?_take_of_lt hj] at hy
    exact h2 j c y (by rw [List.getElem?_append_left hj]; exact hc) hy
  · rw [List.getElem?_drop] at hy
    exact h2 (a.length + j) c y (by rw [List.getElem?_append_right (by omega)]; rw [Nat.add_sub_cancel_left]; exact hc) hy
theorem fit_step {ds : List DV} (h : FitR ctStep ds) : ∃ s : Step, ds = cStep s := by
  obtain ⟨y, z, rfl, h1, h2⟩ := FitR.split h
  obtain ⟨x, rfl⟩ := fit_lock h1
  obtain ⟨_, _, rfl, h3, h⟩ := h2.cons
  cases h.done
  obtain ⟨b, rfl⟩ := h3.bool_inv
  exact ⟨⟨x, b⟩, rfl⟩
theorem fit_steps {ds : List DV} (h : FitR [.sl ctStep] ds) : ∃ l : List Step, pOf false ds = .d (encSteps l) := by
  obtain ⟨_, _, rfl, h1, h⟩ := h.cons
  cases h.done
  obtain ⟨xs, rfl, _, h2⟩ := h1.sl_inv
  obtain ⟨l, rfl⟩ := all_map (f := cStep) xs (fun z hz => fit_step (h2 z hz))
  exact ⟨l, rfl⟩
end Go.Proofs.Ve

/- The row of LockMay: its walk's contract, lifted. -/
set_option linter.all false
set_option maxRecDepth 100000
namespace Go.Proofs.Ytpmhiiembbfbeaa.lockMay
open Go Go.Proofs.Ve Go.ChangeShapes Go.WideShapes Go.ChangeAt Go.RowKit
theorem own : ownKnob Try.prog.godebug = none := by kernel_rfl
theorem laidOut : laidOutB Try.prog = true := by kernel_rfl
theorem lifted (os : Os) (started : os.Started) (H : Type) (enc : TypeId × Value → H) :
    ReturnsInHanded {} Try.checked os 4 .any (Rows.lockMaySpec.pre6 enc Try.prog Try.f4 Rows.lockMayRow.domain false) (Rows.lockMaySpec.post enc Try.prog Try.f4 false true false false) := by
  refine returnsInHanded_of_change_sized (C := Try.checked) own started (by kernel_rfl) Try.func4
    (ChangeSpec.witness6 (enc := enc) (C := Try.checked) false ⟨#[], #[.slice none 0 0], []⟩ 8 (by kernel_rfl) (by kernel_rfl) (by kernel_rfl) (by kernel_rfl)) ?_
  intro W base args ds gs before hval0 hW hcnd hsz0 _
  have hval : ∀ (j : Nat) t v, Try.f4.params[j]? = some t → args[j]? = some v → Value.okWide Try.prog W .any base t v := hval0
  have hW' := hW
  obtain ⟨p, q, hA0, hV, rfl, hfz, hnd⟩ := hW
  have hA : DataW.TrodAll enc Try.prog W 0 (fun _ => true) true Try.f4.params.toList args.toList ds p := hA0
  rw [Try.params4] at hA hval
  obtain ⟨v0, vs0, d0, ds0, p0, q0, hargs, rfl, rfl, h0, r0⟩ := trodAll_cons hA
  obtain ⟨rfl, rfl, rfl⟩ := trodAll_nil r0
  obtain rfl : args = #[v0] := by cases args; simp_all
  obtain ⟨rfl, rfl⟩ := trodVars_none hV
  obtain ⟨e0, fit0, rp0⟩ := arg_reads 12 (r := [.sl ctStep]) (by kernel_rfl) (hval 0 _ v0 rfl rfl) h0
  obtain ⟨x0, hx0⟩ := fit_steps fit0
  have rp0 : RP (m0 W) _ v0 := hx0 ▸ rp0
  have lt0 : ∀ x ∈ p0, x.block < W.heap.size := by obtain ⟨m, hm⟩ := h0; exact DataW.trod_lt m _ _ _ hm
  have call : Calls Try.prog 4 #[v0] W fun e W' => e = .returned (.bool true) ∧ Below W.heap.size W W' := by
    refine CallEq.calls (c4 x0 []) rfl ?_
    intro j p v hp hv
    match j with
    | 0 => cases hp; cases hv; exact rp0
    | j + 1 => cases hp
  refine call.mono fun e W' ⟨he, bel⟩ => ?_
  subst he
  exact ⟨_, rfl, _, _, _, [], _, [], hW', trodAll_mk1 (shut_bool Try.underlying4 _), (trodAll_cons_mk (Below.trod laidOut (by kernel_rfl) (of_decide_eq_true (by kernel_rfl)) h0 bel lt0) trodAll_mk0), rfl, bel.frame _, fun h => by cases h⟩
theorem over : Rows.lockMayRow.holds Try.pinned (OpenSpec.ofChange Rows.lockMaySpec) :=
  OpenClaim.holds_of_wide 4 Try.f4 rfl rfl rfl rfl rfl rfl rfl ⟨rfl, rfl, rfl, rfl, rfl⟩ rfl rfl rfl rfl rfl (by kernel_rfl) Try.func4 (by kernel_rfl)
    (of_decide_eq_true (by kernel_rfl)) (by unfold Func.isWrapper; first | (rw [if_pos (by decide +kernel)]; kernel_rfl) | (rw [if_neg (by decide +kernel)]; exact ⟨rfl, rfl⟩))
    (fun os started H enc _ => lifted os started H enc)
theorem proved : Rows.LockMaySaid := over
#print axioms proved
end Go.Proofs.Ytpmhiiembbfbeaa.lockMay
namespace Go.Proofs.Ytpmhiiembbfbeaa
/-- The row, under a short name, for the claim. -/
theorem lockMay_holds : Rows.LockMaySaid := lockMay.proved
end Go.Proofs.Ytpmhiiembbfbeaa
