/- What the value machine says of a region whose order is drawn is so. -/
import Derived.Test.YtpmhiiembbfbeaaV15
set_option linter.all false
namespace Go.Proofs.Ve
open Go

def PureStep (P : Program) (o : Oper) (tm : List PV) (pv : PV) : Prop :=
  ∀ (m : M) (a : Act), EvR m a tm o.op.operands.toList → ∃ v, (∀ w, (execOp a.eval o).run P w = .ok (.value v) w) ∧ RP m pv v
theorem PureStep.step {C : Cx} {H : List (List Blk)} {o : Oper} {tm : List PV} {top : List Blk} {pv : PV} (h : PureStep C.P o tm pv) : OpStep C H o tm top pv top :=
  step_val fun m a _ he => let ⟨v, h1, h2⟩ := h m a he; ⟨v, h1 _, h2⟩

theorem pure_step {C : Cx} (hC : C.Ok) {H : List (List Blk)} {o : Oper} {tm : List PV} {top : List Blk} {K : PV → List Blk → Prop} (h : actK C H o.op tm top K) (hp : pureOp o.op = true) :
    ∃ pv, K pv top ∧ PureStep C.P o tm pv := by
  cases ho : o.op <;> rw [ho] at hp <;> simp [pureOp] at hp <;> rw [ho] at h
  · obtain ⟨p, hp, h⟩ := evK_ev h
    exact ⟨p, h, fun m a he => ⟨_, fun w => by simp [execOp, ho], ev_rel he (by simp [ho, Op.operands]) hp⟩⟩
  · obtain ⟨p, hp, h⟩ := evK_ev h
    exact ⟨p, h, fun m a he => ⟨_, fun w => by simp [execOp, ho], ev_rel he (by simp [ho, Op.operands]) hp⟩⟩
  · obtain ⟨p, hp, h⟩ := evK_ev h
    obtain ⟨q, hq, hh⟩ := fieldK_spec hC h
    refine ⟨q, hq, fun m a he => ?_⟩
    obtain ⟨u, hu, hr⟩ := hh m _ (ev_rel he (by simp [ho, Op.operands]) hp)
    exact ⟨u, fun w => ex_run (by simp [execOp, ho]) (hu w), hr⟩
  · rename_i x i
    obtain ⟨p, hp, h⟩ := evK_ev h
    split at h
    case h_2 => exact h.elim
    rename_i cs
    obtain ⟨q, hq, h⟩ := getK_spec.1 h
    refine ⟨q, h, fun m a he => ?_⟩
    have := ev_rel he (x := x) (by simp [ho, Op.operands]) hp
    generalize hv : a.eval x = v at this
    cases this with
    | tuple _ vs h1 h2 =>
      have hlt : i < vs.size := by rw [← h1]; exact (List.getElem?_eq_some_iff.1 hq).1
      have hvi : vs[i]? = some vs[i] := Array.getElem?_eq_getElem hlt
      exact ⟨vs[i], fun w => by simp [execOp, ho, hv, Instr.extract, hvi], h2 i q _ hq hvi⟩

theorem actK_full {C : Cx} (hC : C.Ok) {H : List (List Blk)} {o : Oper} {tm : List PV} {top : List Blk} {K : PV → List Blk → Prop} (h : actK C H o.op tm top K) :
    ∃ pv top', K pv top' ∧ top.length ≤ top'.length ∧ ActStep C H o tm top pv top' ∧ (Op.turns C.give o.op = false → top <+: top' ∧ OpStep C H o tm top pv top') ∧ (pureOp o.op = true → top' = top ∧ PureStep C.P o tm pv) := by
  cases hp : pureOp o.op with
  | true =>
    obtain ⟨pv, h1, h2⟩ := pure_step hC h hp
    exact ⟨pv, top, h1, Nat.le_refl _, h2.step.act, fun _ => ⟨List.prefix_refl _, h2.step⟩, fun _ => ⟨rfl, h2⟩⟩
  | false =>
    cases ht : Op.turns C.give o.op with
    | true =>
      obtain ⟨pv, top', h1, h2, h3⟩ := actK_step hC h
      exact ⟨pv, top', h1, h2, h3, fun h => (by cases h), fun h => (by cases h)⟩
    | false =>
      have h' : opK C H o.op tm top K := by
        cases ho : o.op with
        | store t a v => rw [ho] at ht; cases ht
        | call c =>
          rw [ho] at h ht
          unfold actK at h
          dsimp only at h
          unfold Op.turns at ht
          dsimp only at ht
          cases hcl : c.callee with
          | builtin b => rw [hcl] at h ht; cases b <;> first | exact h | cases ht
          | invoke r n => rw [hcl] at h; exact h
          | value f =>
            rw [hcl] at h ht
            cases f with
            | func f =>
              dsimp only at h ht
              rw [ht] at h
              exact h
            | tmp t => exact h
            | const v => exact h
            | global g => exact h
        | _ => rw [ho] at h; exact h
      obtain ⟨pv, top', h1, h2, h3⟩ := opK_step hC h'
      exact ⟨pv, top', h1, h2.length_le, h3.act, fun _ => ⟨h2, h3⟩, fun h => (by cases h)⟩

/-! ### the walk in the text's order -/
def tmLe (x y : List PV) : Prop := x.length = y.length ∧ ∀ (t : Nat) p, x[t]? = some p → ∃ q, y[t]? = some q ∧ ∀ m v, RP m p v → RP m q v
theorem tmLe.refl (x : List PV) : tmLe x x := ⟨rfl, fun t p h => ⟨p, h, fun _ _ h => h⟩⟩
structure Seqn where
  w : Nat → Bool
  pv : Nat → PV
  tc : Nat → List PV
  tr : Nat → List PV
  tp : Nat → List Blk
structure StpOk (C : Cx) (H : List (List Blk)) (ops : List Oper) (o : Oper) (w : Bool) (pv : PV) (tc tr tc' : List PV) (tp tp' : List Blk) : Prop where
  le : tmLe tc tr
  want : (o.guard = none ∧ w = true) ∨ ∃ j b o' d p x, o.guard = some (j, b) ∧ ops[j]? = some o' ∧ o'.dst = some d ∧ (tc[d]? = some p ∧ bool? p = some x ∧ w = (x == b) ∨ tc[d]? = some (.tuple []) ∧ w = false)
  next : (o.dst = none ∧ tc' = tr) ∨ ∃ d, o.dst = some d ∧ d < tr.length ∧ tc' = tr.set d pv
  skip : w = false → pv = .tuple [] ∧ tp' = tp
  len : tp.length ≤ tp'.length
  act : w = true → ActStep C H o tr tp pv tp'
  op : w = true → Op.turns C.give o.op = false → tp <+: tp' ∧ OpStep C H o tr tp pv tp'
  pure : w = true → pureOp o.op = true → tp' = tp ∧ PureStep C.P o tr pv

theorem wantK_sem {ops : List Oper} {o : Oper} {tm : List PV} {K : Bool → List PV → Prop} (hk : wantK ops o tm K) :
    ∃ w tm1, K w tm1 ∧ tmLe tm tm1 ∧ ((o.guard = none ∧ w = true) ∨ ∃ j b o' d p x, o.guard = some (j, b) ∧ ops[j]? = some o' ∧ o'.dst = some d ∧ (tm[d]? = some p ∧ bool? p = some x ∧ w = (x == b) ∨ tm[d]? = some (.tuple []) ∧ w = false)) := by
  unfold wantK at hk
  split at hk
  · rename_i hg
    exact ⟨true, tm, hk, .refl _, .inl ⟨hg, rfl⟩⟩
  · rename_i j b hg
    obtain ⟨o', ho', hk⟩ := getK_spec.1 hk
    split at hk
    · exact hk.elim
    · rename_i d hd
      obtain ⟨p, hp, hk⟩ := getK_spec.1 hk
      split at hk
      · rename_i x
        exact ⟨_, tm, hk, .refl _, .inr ⟨j, b, o', d, _, x, hg, ho', hd, .inl ⟨hp, rfl, rfl⟩⟩⟩
      · exact ⟨false, tm, hk, .refl _, .inr ⟨j, b, o', d, .any, false, hg, ho', hd, .inr ⟨hp, rfl⟩⟩⟩
      · rename_i x
        have same : tmLe tm (tm.set d (.kb x)) := by
          refine ⟨by simp, fun t q hq => ?_⟩
          by_cases ht : d = t
          · subst ht
            rw [hp] at hq; cases hq
            refine ⟨.kb x, by simp [(List.getElem?_eq_some_iff.1 hp).1], fun m v hv => ?_⟩
            cases hv with | d _ _ hx => cases hx; exact .kb _
          · exact ⟨q, by rw [List.getElem?_set_ne ht]; exact hq, fun _ _ h => h⟩
        by_cases hxb : x = b
        · subst hxb
          exact ⟨true, _, (setK_spec.1 (hk.1 rfl)).2, same, .inr ⟨j, x, o', d, _, x, hg, ho', hd, .inl ⟨hp, rfl, by cases x <;> rfl⟩⟩⟩
        · have hx : x = !b := by cases x <;> cases b <;> first | rfl | exact absurd rfl hxb
          subst hx
          exact ⟨false, _, (setK_spec.1 (hk.2 rfl)).2, same, .inr ⟨j, b, o', d, _, !b, hg, ho', hd, .inl ⟨hp, rfl, by cases b <;> rfl⟩⟩⟩
      · exact hk.elim

theorem putDst_sem {o : Oper} {tr : List PV} {pv : PV} {K : List PV → Prop} (h : putDst o tr pv K) : ∃ tc', K tc' ∧ ((o.dst = none ∧ tc' = tr) ∨ ∃ d, o.dst = some d ∧ d < tr.length ∧ tc' = tr.set d pv) := by
  unfold putDst at h
  split at h
  · rename_i hd; exact ⟨tr, h, .inl ⟨hd, rfl⟩⟩
  · rename_i d hd; obtain ⟨h1, h2⟩ := setK_spec.1 h; exact ⟨_, h2, .inr ⟨d, hd, h1, rfl⟩⟩

theorem canon {C : Cx} (hC : C.Ok) {H : List (List Blk)} {ops : List Oper} {K : List PV → List Blk → Prop} : ∀ (l : List Oper) (tm : List PV) (top : List Blk), opsK C H ops l tm top K →
    ∃ S : Seqn, S.tc 0 = tm ∧ S.tp 0 = top ∧ K (S.tc l.length) (S.tp l.length) ∧ ∀ (k : Nat) o, l[k]? = some o → StpOk C H ops o (S.w k) (S.pv k) (S.tc k) (S.tr k) (S.tc (k + 1)) (S.tp k) (S.tp (k + 1))
  | [], tm, top, h => ⟨⟨fun _ => true, fun _ => .any, fun _ => tm, fun _ => tm, fun _ => top⟩, rfl, rfl, h, fun k o hk => by simp at hk⟩
  | o :: l, tm, top, h => by
    unfold opsK at h
    obtain ⟨w, tr, h, hle, hw⟩ := wantK_sem h
    have fin : ∀ (pv : PV) (tc' : List PV) (top' : List Blk), StpOk C H ops o w pv tm tr tc' top top' → opsK C H ops l tc' top' K →
        ∃ S : Seqn, S.tc 0 = tm ∧ S.tp 0 = top ∧ K (S.tc (o :: l).length) (S.tp (o :: l).length) ∧ ∀ (k : Nat) o', (o :: l)[k]? = some o' → StpOk C H ops o' (S.w k) (S.pv k) (S.tc k) (S.tr k) (S.tc (k + 1)) (S.tp k) (S.tp (k + 1)) := by
      intro pv tc' top' hs hk
      obtain ⟨S, h1, h2, h3, h4⟩ := canon hC l tc' top' hk
      refine ⟨⟨fun i => match i with | 0 => w | i + 1 => S.w i, fun i => match i with | 0 => pv | i + 1 => S.pv i, fun i => match i with | 0 => tm | i + 1 => S.tc i, fun i => match i with | 0 => tr | i + 1 => S.tr i, fun i => match i with | 0 => top | i + 1 => S.tp i⟩, rfl, rfl, h3, fun k o' hk => ?_⟩
      cases k with
      | zero =>
        simp at hk
        subst hk
        show StpOk C H ops o w pv tm tr (S.tc 0) top (S.tp 0)
        rw [h1, h2]; exact hs
      | succ k => exact h4 k o' (by simpa using hk)
    cases w with
    | true =>
      obtain ⟨pv, top', h, hl, hA, hO, hP⟩ := actK_full hC h
      obtain ⟨tc', h, hn⟩ := putDst_sem h
      exact fin pv tc' top' ⟨hle, hw, hn, fun h => (by cases h), hl, fun _ => hA, fun _ => hO, fun _ => hP⟩ h
    | false =>
      obtain ⟨tc', h, hn⟩ := putDst_sem h
      exact fin (.tuple []) tc' top ⟨hle, hw, hn, fun _ => ⟨rfl, rfl⟩, Nat.le_refl _, fun h => (by cases h), fun h => (by cases h), fun h => (by cases h)⟩ h
end Go.Proofs.Ve
