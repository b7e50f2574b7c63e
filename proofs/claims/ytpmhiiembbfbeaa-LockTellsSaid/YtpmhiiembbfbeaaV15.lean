/- What the value machine says of a region in order is so. -/
import Derived.Test.YtpmhiiembbfbeaaVG
set_option linter.all false
namespace Go.Proofs.Ve
open Go

theorem actK_step {C : Cx} (hC : C.Ok) {H : List (List Blk)} {o : Oper} {tm : List PV} {top : List Blk} {K : PV → List Blk → Prop} (h : actK C H o.op tm top K) :
    ∃ pv top', K pv top' ∧ top.length ≤ top'.length ∧ ActStep C H o tm top pv top' := by
  have plain : opK C H o.op tm top K → ∃ pv top', K pv top' ∧ top.length ≤ top'.length ∧ ActStep C H o tm top pv top' := fun h => by
    obtain ⟨pv, top', h1, h2, h3⟩ := opK_step hC h
    exact ⟨pv, top', h1, h2.length_le, h3.act⟩
  cases ho : o.op with
  | store t a v =>
    rw [ho] at h
    simp only [actK] at h
    obtain ⟨p, hp, h⟩ := evK_ev h
    obtain ⟨q, hq, h⟩ := evK_ev h
    obtain ⟨top', h1, h2, h3⟩ := store_step hC ho hp hq h
    exact ⟨.any, top', h1, Nat.le_of_eq h2.symm, h3⟩
  | call c =>
    rw [ho] at h
    have hb : (∃ b, c.callee = .builtin b ∧ b = .append) ∨ (∃ f, c.callee = .value (.func f) ∧ evsK tm c.args.toList fun as => ifK (C.plain f) (giveK C H top f as K)) ∨ opK C H (.call c) tm top K := by
      unfold actK at h
      dsimp only at h
      cases hcl : c.callee with
      | builtin b => rw [hcl] at h; cases b <;> first | exact .inl ⟨_, rfl, rfl⟩ | exact .inr (.inr h)
      | invoke r n => rw [hcl] at h; exact .inr (.inr h)
      | value f =>
        rw [hcl] at h
        cases f with
        | func f =>
          dsimp only at h
          cases hg : C.give.any (Nat.beq f) with
          | true => rw [hg] at h; exact .inr (.inl ⟨f, rfl, h⟩)
          | false => rw [hg] at h; exact .inr (.inr h)
        | tmp t => exact .inr (.inr h)
        | const v => exact .inr (.inr h)
        | global g => exact .inr (.inr h)
    rcases hb with ⟨b, hcl, rfl⟩ | ⟨f, hcl, h⟩ | hb
    rotate_left
    · obtain ⟨as, h, hl, hr⟩ := evsK_spec (ys := o.op.operands.toList) h (fun x hx => by rw [ho]; simp only [Op.operands, Call.operands, hcl, Array.toList_append]; exact List.mem_append_right _ hx)
      simp only [ifK] at h
      split at h
      case h_2 => exact h.elim
      rename_i hpl
      obtain ⟨pv, top', hk, hle, hh⟩ := give_spec h
      refine ⟨pv, top', hk, hle, fun m a hinv he hfree next Q hnext => ?_⟩
      have hrun : (execOp a.eval o).run C.P m.w = .ok (.enter f (c.args.map a.eval)) m.w := by
        simp only [execOp, ho, resolve, hcl, Deferred.ofValue, Act.eval, Sem.run_bind, Sem.run_pure, Result.andThen_ok, invoke]
        simpa using run_callFunc hC hpl _ _
      unfold Oper.wp
      rw [hrun]
      show Calls C.P f _ m.w _
      refine (hh m (c.args.map a.eval) hinv (by rw [hl]; simp) (fun j p v hp hv => ?_) hfree).mono ?_
      · rw [Array.getElem?_map] at hv
        obtain ⟨x, hx, rfl⟩ := Option.map_eq_some_iff.1 hv
        exact hr m a he _ p x hp (by simpa using hx)
      · rintro e w' ⟨v, m', rfl, rfl, hT, hρ, hfr, hi, hr⟩
        exact hnext v m' hT hρ hfr hi hr
    · exact plain (by rw [ho]; exact hb)
    · simp only [actK, hcl] at h
      split at h
      case h_2 => exact h.elim
      rename_i x y t t' hx ht
      simp only [ifK] at h
      split at h
      case h_2 => exact h.elim
      rename_i hb
      obtain rfl := Nat.eq_of_beq_eq_true hb
      obtain ⟨p, hp, h⟩ := evK_ev h
      obtain ⟨q, hq, h⟩ := evK_ev h
      exact append_step hC ho hcl (by rw [← Array.toArray_toList (xs := c.args), hx]) (by rw [← Array.toArray_toList (xs := c.argTypes), ht]) hp hq h
  | _ => rw [ho] at h; exact plain (by rw [ho]; exact h)

structure St (H : List (List Blk)) (m0 : M0) (m : M) (a : Act) (tm : List PV) (top : List Blk) : Prop where
  inv : Inv m top H
  size : a.tmps.size = tm.length
  rel : ∀ (j : Nat) p v, tm[j]? = some p → a.tmps[j]? = some v → RP m p v
  defers : a.defers = []
  free : ∀ j, top.length ≤ j → m.ρ 0 j = none
  since : Since m0 m

theorem St.evR {H : List (List Blk)} {m0 : M0} {m : M} {a : Act} {tm : List PV} {top : List Blk} (h : St H m0 m a tm top) (xs : List Operand) : EvR m a tm xs := by
  intro t p _ ht
  have hlt : t < a.tmps.size := by rw [h.size]; exact (List.getElem?_eq_some_iff.1 ht).1
  have := h.rel t p a.tmps[t] ht (Array.getElem?_eq_getElem hlt)
  simpa [Act.eval, Array.getD, hlt] using this
theorem St.set {H : List (List Blk)} {m0 : M0} {m : M} {a : Act} {tm : List PV} {top : List Blk} (h : St H m0 m a tm top) {d : Nat} {p : PV} {v : Value} (hr : RP m p v) : St H m0 m (a.put (some d) v) (tm.set d p) top := by
  refine ⟨h.inv, by simp [Act.put, h.size], fun j q u hq hu => ?_, h.defers, h.free, h.since⟩
  simp only [Act.put] at hu
  by_cases hj : d = j
  · subst hj
    have h1 : d < tm.length := by simpa using (List.getElem?_eq_some_iff.1 hq).1
    simp [h1] at hq
    simp [h.size, h1] at hu
    subst hq; subst hu; exact hr
  · rw [List.getElem?_set_ne hj] at hq
    rw [Array.getElem?_setIfInBounds_ne hj] at hu
    exact h.rel j q u hq hu
theorem St.put {H : List (List Blk)} {m0 : M0} {m : M} {a : Act} {tm : List PV} {top : List Blk} (h : St H m0 m a tm top) {o : Oper} {p : PV} {v : Value} (hr : RP m p v) {K : List PV → Prop} (hk : putDst o tm p K) :
    ∃ tm', K tm' ∧ St H m0 m (a.put o.dst v) tm' top := by
  unfold putDst at hk
  cases ho : o.dst with
  | none => rw [ho] at hk; exact ⟨tm, hk, h⟩
  | some d => rw [ho] at hk; exact ⟨_, (setK_spec.1 hk).2, h.set hr⟩

theorem St.turn {H : List (List Blk)} {m0 : M0} {m m' : M} {a : Act} {tm : List PV} {top top' : List Blk} (h : St H m0 m a tm top) (hT : Turn m m' top) (hl : top.length ≤ top'.length) (hρ : ∀ l j, ¬ (l = 0 ∧ top.length ≤ j ∧ j < top'.length) → m'.ρ l j = m.ρ l j)
    (hfr : ∀ j u k, top.length ≤ j → j < top'.length → m'.ρ 0 j = some u → blkOf u = some k → m.w.heap.size ≤ k ∨ Mine m top k) (hI : Inv m' top' H) : St H m0 m' a tm top' := by
  have hK := hT.keep h.inv
  have mine : ∀ k, Mine m top k → m0.w.heap.size ≤ k ∨ Mine m0.toM m0.g k := fun k ⟨i, b, v, h1, h2, h3, h4⟩ => h.since.fresh i v k h3 h4
  refine ⟨hI, h.size, fun j p v hp hv => (h.rel j p v hp hv).keep hK, h.defers, fun j hj => ?_, ?_⟩
  · rw [hρ 0 j (by omega)]; exact h.free j (by omega)
  · have s := h.since
    refine ⟨hT.os.trans s.os, hT.tape.trans s.tape, hT.output.trans s.output, Nat.le_trans s.size hT.size, fun k hk hnm => ?_, fun l i => (hρ (l + 1) i (by omega)).trans (s.up l i), fun k hk => ?_, fun j u k hu hk => ?_⟩
    · rw [hT.heap k (Nat.lt_of_lt_of_le hk s.size) (fun hm => (mine k hm).elim (fun h => by omega) hnm)]
      exact s.heap k hk hnm
    · exact (hT.U k (Nat.lt_of_lt_of_le hk s.size)).trans (s.U k hk)
    · by_cases hj : top.length ≤ j ∧ j < top'.length
      · rcases hfr j u k hj.1 hj.2 hu hk with h1 | h1
        · exact .inl (Nat.le_trans s.size h1)
        · exact mine k h1
      · rw [hρ 0 j (by omega)] at hu
        exact s.fresh j u k hu hk

theorem ActStep.wp {C : Cx} {H : List (List Blk)} {o : Oper} {tm : List PV} {top : List Blk} {pv : PV} {top' : List Blk} (hA : ActStep C H o tm top pv top') (hl : top.length ≤ top'.length) {m0 : M0} {m : M} {a : Act} (hs : St H m0 m a tm top) {K : List PV → Prop} (hk : putDst o tm pv K)
    {next : Act → World → Prop} {Q : Exit → Act → World → Prop} (hn : ∀ v m' tm', K tm' → St H m0 m' (a.put o.dst v) tm' top' → next (a.put o.dst v) m'.w) : o.wp C.P a m.w next Q :=
  hA m a hs.inv (hs.evR _) hs.free next Q fun v m' hT hρ hfr hI hR => by
    obtain ⟨tm', h1, h2⟩ := (hs.turn hT hl hρ hfr hI).put hR hk
    exact hn v m' tm' h1 h2

/-! ### guards -/
theorem St.yielded {H : List (List Blk)} {m0 : M0} {m : M} {a : Act} {tm : List PV} {top : List Blk} (h : St H m0 m a tm top) {ops : List Oper} {j d : Nat} {o' : Oper} (ho : ops[j]? = some o') (hd : o'.dst = some d) {b : Bool} {p : PV} (hp : tm[d]? = some p) (hb : bool? p = some b) :
    yielded ops.toArray a.tmps j = some b := by
  have hlt : d < a.tmps.size := by rw [h.size]; exact (List.getElem?_eq_some_iff.1 hp).1
  have hv := Array.getElem?_eq_getElem hlt
  have := h.rel d p _ hp hv
  generalize a.tmps[d] = v at *
  have hvb : v = .bool b := by
    cases p with
    | kb x => simp [bool?] at hb; subst hb; cases this; rfl
    | d x =>
      cases x with
      | bool x => simp [bool?] at hb; subst hb; cases this with | d _ _ hx => cases hx; rfl
      | int k n => simp [bool?] at hb
      | str s => simp [bool?] at hb
      | sl xs => simp [bool?] at hb
    | _ => simp [bool?] at hb
  subst hvb
  simp [Go.yielded, ho, hd, hv]
theorem wantK_spec {H : List (List Blk)} {m0 : M0} {m : M} {a : Act} {tm : List PV} {top : List Blk} (h : St H m0 m a tm top) {ops : List Oper} {o : Oper} {K : Bool → List PV → Prop} (hk : wantK ops o tm K) :
    ∃ tm1, K (Region.wanted o (Go.yielded ops.toArray a.tmps)) tm1 ∧ St H m0 m a tm1 top ∧ tm1.length = tm.length := by
  unfold wantK at hk
  unfold Region.wanted
  cases hg : o.guard with
  | none => rw [hg] at hk; exact ⟨tm, hk, h, rfl⟩
  | some jb =>
    obtain ⟨j, b⟩ := jb
    rw [hg] at hk
    obtain ⟨o', ho', hk⟩ := getK_spec.1 hk
    split at hk
    · exact hk.elim
    · rename_i d hd
      obtain ⟨p, hp, hk⟩ := getK_spec.1 hk
      split at hk
      · rename_i x
        refine ⟨tm, ?_, h, rfl⟩
        simp only [h.yielded ho' hd hp (b := x) rfl]
        have : (some x == some b) = (x == b) := by cases x <;> cases b <;> rfl
        rw [this]; exact hk
      · have hlt : d < a.tmps.size := by rw [h.size]; exact (List.getElem?_eq_some_iff.1 hp).1
        have hv := Array.getElem?_eq_getElem hlt
        have hr := h.rel d _ _ hp hv
        generalize a.tmps[d] = v at hv hr
        cases hr with
        | tuple _ vs e1 e2 =>
          have hy : Go.yielded ops.toArray a.tmps j = none := by simp [Go.yielded, ho', hd, hv]
          refine ⟨tm, ?_, h, rfl⟩
          simp only [hy]
          exact hk
      · rename_i x
        simp only [h.yielded ho' hd hp (b := x) rfl]
        have same : St H m0 m a (tm.set d (.kb x)) top := by
          refine ⟨h.inv, by simp [h.size], fun j q u hq hu => ?_, h.defers, h.free, h.since⟩
          by_cases hj : d = j
          · subst hj
            have h1 : d < tm.length := (List.getElem?_eq_some_iff.1 hp).1
            simp [h1] at hq
            subst hq
            have := h.rel d _ u hp hu
            cases this with | d _ _ hx => cases hx; exact .kb _
          · rw [List.getElem?_set_ne hj] at hq
            exact h.rel j q u hq hu
        by_cases hxb : x = b
        · subst hxb
          have := (setK_spec.1 (hk.1 rfl)).2
          exact ⟨_, by simpa using this, same, by simp⟩
        · have hx : x = !b := by cases x <;> cases b <;> first | rfl | exact absurd rfl hxb
          subst hx
          have := (setK_spec.1 (hk.2 rfl)).2
          have e : (some (!b) == some b) = false := by cases b <;> rfl
          rw [e]
          exact ⟨_, this, same, by simp⟩
      · exact hk.elim

/-- a region in the order of its text -/
theorem opsK_spec {C : Cx} (hC : C.Ok) {H : List (List Blk)} {ops : List Oper} {m0 : M0} {K : List PV → List Blk → Prop} {Q : Exit → Act → World → Prop} (hQ : ∀ m a tm top, K tm top → St H m0 m a tm top → Q .normal a m.w) :
    ∀ (l : List Oper) (is : List Nat) (tm : List PV) (top : List Blk) (m : M) (a : Act), is.length = l.length → (∀ (k : Nat) i, is[k]? = some i → ops[i]? = l[k]?) → opsK C H ops l tm top K → St H m0 m a tm top →
      wpOps C.P ops.toArray Q is a m.w
  | [], is, tm, top, m, a, hl, _, hk, hs => by
    obtain rfl : is = [] := List.eq_nil_of_length_eq_zero hl
    exact hQ m a tm top hk hs
  | o :: l, [], tm, top, m, a, hl, _, hk, hs => by cases hl
  | o :: l, i :: is, tm, top, m, a, hl, hi, hk, hs => by
    have h0 : ops[i]? = some o := hi 0 i rfl
    have ha : ops.toArray[i]? = some o := by simpa using h0
    have hi' : ∀ (k : Nat) i', is[k]? = some i' → ops[i']? = l[k]? := fun k i' h => hi (k + 1) i' (by simpa using h)
    unfold opsK at hk
    obtain ⟨tm1, hk, hs1, _⟩ := wantK_spec hs hk
    simp only [wpOps, ha]
    split
    · rename_i hw
      rw [hw] at hk
      obtain ⟨pv, top', hk, hl', hA⟩ := actK_step hC hk
      refine .inl (hA.wp hl' hs1 hk fun v m' tm' hk' hs' => ?_)
      exact opsK_spec hC hQ l is tm' top' m' _ (by simpa using hl) hi' hk' hs'
    · rename_i hw
      have hw : Region.wanted o (Go.yielded ops.toArray a.tmps) = false := by simpa using hw
      rw [hw] at hk
      obtain ⟨tm', hk', hs'⟩ := hs1.put (v := undef) (.tuple [] #[] rfl (fun j p v h => by simp at h)) hk
      exact opsK_spec hC hQ l is tm' top m _ (by simpa using hl) hi' hk' hs'
end Go.Proofs.Ve
