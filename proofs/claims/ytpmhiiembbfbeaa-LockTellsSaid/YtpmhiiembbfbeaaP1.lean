/- Plain laws: texts' order, modes, spans, clashes: the program's words and the document's are one. -/
import Derived.Test.YtpmhiiembbfbeaaK19
import Derived.Lib.Bytealg
import Derived.Laws.Strings
set_option linter.all false
namespace Go.Proofs.Ve
open Go
/-! ### texts' order -/
def cm (a b : List UInt8) : Int := Go.Lib.compareBytes a b
theorem cm_nn : cm [] [] = 0 := rfl
theorem cm_nc (b : UInt8) (bs : List UInt8) : cm [] (b :: bs) = -1 := rfl
theorem cm_cn (a : UInt8) (ts : List UInt8) : cm (a :: ts) [] = 1 := rfl
theorem cm_cc (a b : UInt8) (ts bs : List UInt8) : cm (a :: ts) (b :: bs) = if a < b then -1 else if b < a then 1 else cm ts bs := rfl
theorem cmpB_eq (a b : List UInt8) : cmpB a b = cm a b := Go.Lib.cmp_eq _ _
theorem u8 {a b : UInt8} : a < b ↔ a.toNat < b.toNat := UInt8.lt_iff_toNat_lt
theorem u8_eq {a b : UInt8} (h1 : ¬ a < b) (h2 : ¬ b < a) : a = b := UInt8.toNat_inj.1 (by rw [u8] at h1 h2; omega)
theorem cm_flip : ∀ (a b : List UInt8), cm b a = - cm a b
  | [], [] => rfl
  | [], _ :: _ => rfl
  | _ :: _, [] => rfl
  | a :: ts, b :: bs => by
    rw [cm_cc, cm_cc]
    by_cases h1 : a < b
    · have h2 : ¬ b < a := by rw [u8] at h1 ⊢; omega
      rw [if_neg h2, if_pos h1, if_pos h1]; rfl
    · by_cases h2 : b < a
      · rw [if_pos h2, if_neg h1, if_pos h2]
      · rw [if_neg h1, if_neg h2, if_neg h2, if_neg h1, cm_flip ts bs]
theorem cm_eq : ∀ (a b : List UInt8), cm a b = 0 ↔ a = b
  | [], [] => by simp [cm_nn]
  | [], _ :: _ => by simp [cm_nc]
  | _ :: _, [] => by simp [cm_cn]
  | a :: ts, b :: bs => by
    rw [cm_cc]
    by_cases h1 : a < b
    · rw [if_pos h1]
      have : a ≠ b := fun e => by subst e; rw [u8] at h1; omega
      simp [this]
    · by_cases h2 : b < a
      · rw [if_neg h1, if_pos h2]
        have : a ≠ b := fun e => by subst e; rw [u8] at h2; omega
        simp [this]
      · rw [if_neg h1, if_neg h2, cm_eq ts bs]
        simp [u8_eq h1 h2]
theorem cm_self (a : List UInt8) : cm a a = 0 := (cm_eq a a).2 rfl
theorem cm_trans : ∀ (a b c : List UInt8), cm a b ≤ 0 → cm b c ≤ 0 → cm a c ≤ 0
  | [], _, [], _, _ => by simp [cm_nn]
  | [], _, _ :: _, _, _ => by simp [cm_nc]
  | _ :: _, [], _, h, _ => by simp [cm_cn] at h
  | _ :: _, _ :: _, [], _, h => by simp [cm_cn] at h
  | a :: ts, b :: bs, c :: cs, h, h' => by
    rw [cm_cc] at h h' ⊢
    by_cases h1 : a < b
    · by_cases h3 : b < c
      · rw [if_pos (by rw [u8] at *; omega)]; decide
      · by_cases h4 : c < b
        · rw [if_neg h3, if_pos h4] at h'; simp at h'
        · rw [← u8_eq h3 h4, if_pos h1]; decide
    · by_cases h2 : b < a
      · rw [if_neg h1, if_pos h2] at h; simp at h
      · have e := u8_eq h1 h2
        subst e
        rw [if_neg h1, if_neg h1] at h
        by_cases h3 : a < c
        · rw [if_pos h3]; decide
        · by_cases h4 : c < a
          · rw [if_neg h3, if_pos h4] at h'; simp at h'
          · rw [if_neg h3, if_neg h4] at h' ⊢
            exact cm_trans ts bs cs h h'
theorem cm_range (a b : List UInt8) : cm a b = -1 ∨ cm a b = 0 ∨ cm a b = 1 := by
  induction a generalizing b with
  | nil => cases b <;> simp [cm_nn, cm_nc]
  | cons x a ih =>
    cases b with
    | nil => simp [cm_cn]
    | cons y b =>
      rw [cm_cc]
      by_cases h1 : x < y
      · simp [h1]
      · by_cases h2 : y < x
        · simp [h1, h2]
        · rw [if_neg h1, if_neg h2]; exact ih b
theorem less_eq : ∀ (a b : List UInt8), Op.bytesLess a b = decide (cm a b < 0)
  | [], [] => rfl
  | [], _ :: _ => rfl
  | _ :: _, [] => rfl
  | a :: ts, b :: bs => by
    rw [Op.bytesLess, cm_cc, less_eq ts bs]
    by_cases h1 : a < b
    · simp [h1]
    · by_cases h2 : b < a
      · have : a ≠ b := fun e => by subst e; exact h1 h2
        simp [h1, h2, this]
      · simp [h1, h2, u8_eq h1 h2]
theorem toBA_list (a : List UInt8) : (toBA a).toList = a := by
  have : (toBA a).toList = (toBA a).data.toList := ByteArray.toList_eq _
  rw [this]; rfl
theorem ltB_eq (a b : List UInt8) : ltB a b = decide (cm a b < 0) := by unfold ltB; rw [toBA_list, toBA_list, less_eq]
theorem eqB_eq (a b : List UInt8) : eqB a b = decide (cm a b = 0) := by
  unfold eqB
  rw [toBA_list, toBA_list]
  by_cases h : a = b
  · subst h; simp [cm_self]
  · have : cm a b ≠ 0 := fun e => h ((cm_eq a b).1 e)
    simp [h, this]
/-! ### modes -/
theorem may_is (m : Int) : decide (rMay m > 0) = mIs m := by
  unfold rMay mIs
  by_cases h1 : m = 1
  · subst h1; rfl
  by_cases h2 : m = 2
  · subst h2; rfl
  by_cases h3 : m = 3
  · subst h3; rfl
  by_cases h4 : m = 4
  · subst h4; rfl
  by_cases h5 : m = 5
  · subst h5; rfl
  have e1 : (m == 1) = false := by simpa using h1
  have e2 : (m == 2) = false := by simpa using h2
  have e3 : (m == 3) = false := by simpa using h3
  have e4 : (m == 4) = false := by simpa using h4
  have e5 : (m == 5) = false := by simpa using h5
  rw [e1, e2, e3, e4, e5]
  simp
  omega
theorem may_no {m : Int} (h : mIs m = false) : rMay m = 0 := by
  rw [← may_is] at h
  have h0 : ¬ rMay m > 0 := by simpa using h
  have : 0 ≤ rMay m := by unfold rMay; split <;> (try split) <;> (try split) <;> (try split) <;> (try split) <;> decide
  omega
theorem fits_eq (a b : Int) : mFits a b = rFits a b := by
  by_cases ha : mIs a = true
  · by_cases hb : mIs b = true
    · rcases mIs_cases ha with rfl | rfl | rfl | rfl | rfl <;> rcases mIs_cases hb with rfl | rfl | rfl | rfl | rfl <;> decide
    · have hb : mIs b = false := by simpa using hb
      unfold mFits rFits; rw [hb, may_no hb]; simp
  · have ha : mIs a = false := by simpa using ha
    unfold mFits rFits; rw [ha, may_no ha]; simp
theorem covers_eq (a b : Int) : mCovers a b = rCovers a b := by
  by_cases ha : mIs a = true
  · by_cases hb : mIs b = true
    · rcases mIs_cases ha with rfl | rfl | rfl | rfl | rfl <;> rcases mIs_cases hb with rfl | rfl | rfl | rfl | rfl <;> decide
    · have hb : mIs b = false := by simpa using hb
      unfold mCovers rCovers; rw [hb, may_no hb]; simp
  · have ha : mIs a = false := by simpa using ha
    unfold mCovers rCovers; rw [ha, may_no ha]; simp
theorem covers_self (m : Int) : mCovers m m = mIs m := by
  cases h : mIs m with
  | true => unfold mCovers; rw [h]; simp
  | false => unfold mCovers; rw [h]; rfl
/-! ### spans -/
theorem check_eq (s : Span) : sCheck s = rSCheck s := by
  unfold sCheck rSCheck
  have : decide (s.t < 4) = decide (s.t ≤ 3) := by simp; omega
  rw [this]
theorem empty_eq (s : Span) : sEmpty s = rSEmpty s := by
  unfold sEmpty rSEmpty
  rw [cmpB_eq, ltB_eq, eqB_eq]
  have : decide (cm s.hi s.lo ≤ 0) = (decide (cm s.hi s.lo < 0) || decide (cm s.hi s.lo = 0)) := by
    rw [Bool.eq_iff_iff]; simp; omega
  rw [this]
theorem meets_eq (a b : Span) : sMeets a b = rMeets a b := by
  unfold sMeets rMeets sIn rSIn
  simp only [cmpB_eq, ltB_eq]
  have r1 := cm_self a.lo
  have r2 := cm_self b.lo
  have fl := cm_flip a.lo b.lo
  by_cases ht : a.t = b.t
  · by_cases h : cm a.lo b.lo < 0
    · have h' : ¬ cm b.lo a.lo < 0 := by omega
      simp [h, h', ht, r1, r2]
      have : cm a.lo b.lo ≤ 0 := by omega
      simp [this]
    · by_cases h2 : cm a.lo b.lo = 0
      · have e := (cm_eq _ _).1 h2
        simp [e, ht, r2]
        cases a.op <;> cases b.op <;> simp [Bool.and_comm]
        exact fun p q => ⟨q, p⟩
      · have h3 : cm b.lo a.lo < 0 := by omega
        simp [h, h3, ht, r1]
        have : cm b.lo a.lo ≤ 0 := by omega
        simp [this, Bool.and_comm]
  · have ht' : ¬ b.t = a.t := fun e => ht e.symm
    have e1 : (a.t == b.t) = false := by simpa using ht
    have e2 : (b.t == a.t) = false := by simpa using ht'
    simp [e1, e2]
/-! ### locks -/
theorem lmay_eq (x : Lock) : lMay x = rLMay x := by
  unfold lMay rLMay
  rw [covers_self, check_eq, empty_eq]
  have e0 : decide (x.owner ≥ 4) = decide (x.owner > 3) := by simp; omega
  rw [e0]
  by_cases h : (decide (x.owner < 0) || decide (x.owner > 3)) = true
  · rw [if_pos h]
    have : (decide (x.owner < 0) || (decide (x.owner > 3) || !rSCheck x.span)) = true := by
      simp only [Bool.or_eq_true] at h ⊢
      rcases h with h | h
      · exact .inl h
      · exact .inr (.inl h)
    rw [if_pos this]
  · rw [if_neg h]
    have h1 : decide (x.owner < 0) = false ∧ decide (x.owner > 3) = false := by simpa using h
    rw [h1.1, h1.2]
    simp only [Bool.false_or]
    rw [may_is]
    cases hc : rSCheck x.span with
    | true =>
      simp only [Bool.not_true, Bool.false_eq_true, if_false, Bool.true_and]
      cases hw : x.whole with
      | false => rfl
      | true =>
        simp only [if_true]
        unfold rSCheck at hc
        simp only [Bool.and_eq_true] at hc
        obtain ⟨⟨⟨⟨a1, a2⟩, _⟩, _⟩, _⟩ := hc
        rw [a1, a2]; simp
    | false =>
      simp only [Bool.not_false, if_true, Bool.false_and]
      cases hw : x.whole with
      | false => simp
      | true =>
        simp only [if_true]
        cases hb : ((x.span.lo.length : Int) == 0 && ((x.span.hi.length : Int) == 0 && !x.span.op)) with
        | false => simp
        | true =>
          simp only [Bool.and_eq_true, beq_iff_eq, Bool.not_eq_true'] at hb
          obtain ⟨b1, b2, b3⟩ := hb
          unfold rSCheck at hc
          rw [b1, b2, b3] at hc
          simp at hc
          simp
          intro h1 h2
          omega
theorem clash_eq (a b : Lock) : lClash a b = rClash a b := by
  unfold lClash rClash; rw [fits_eq, meets_eq]
theorem weak_eq (x y : Lock) : lWeak x y = rWeak x y := by unfold lWeak rWeak; rw [covers_eq]
theorem twice_eq (x y : Lock) : lTwice x y = rTwice x y := by unfold lTwice rTwice; rw [clash_eq]
end Go.Proofs.Ve
