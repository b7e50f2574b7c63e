/- The row of LockTells: its walk's contract, lifted. -/
import Derived.Test.YtpmhiiembbfbeaaRows
import Derived.Test.YtpmhiiembbfbeaaR0
import Derived.Test.YtpmhiiembbfbeaaK21
import Derived.WalkKit
import Derived.ProofKit
import Derived.OpenShut
import Derived.ShutString
import Derived.ChangeOld
import Derived.Below
import Derived.SizedLaws
import Derived.Carry
set_option linter.all false
set_option maxRecDepth 100000
namespace Go.Proofs.Ytpmhiiembbfbeaa.lockTells
open Go Go.Proofs.Ve Go.ChangeShapes Go.WideShapes Go.ChangeAt Go.RowKit
theorem own : ownKnob Try.prog.godebug = none := by kernel_rfl
theorem laidOut : laidOutB Try.prog = true := by kernel_rfl
theorem lifted (os : Os) (started : os.Started) (H : Type) (enc : TypeId × Value → H) :
    ReturnsInHanded {} Try.checked os 3 .any (Rows.lockTellsSpec.pre6 enc Try.prog Try.f3 Rows.lockTellsRow.domain false) (Rows.lockTellsSpec.post enc Try.prog Try.f3 false true false false) := by
  refine returnsInHanded_of_change_sized (C := Try.checked) own started (by kernel_rfl) Try.func3
    (ChangeSpec.witness6 (enc := enc) (C := Try.checked) false ⟨#[], #[.agg #[.slice none 0 0, .slice none 0 0], .agg #[.int .i64 0, .bool false, .int .i64 0, .slice none 0 0, .slice none 0 0, .bool false, .int .i64 0], .agg #[.int .i64 0, .bool false, .int .i64 0, .slice none 0 0, .slice none 0 0, .bool false, .int .i64 0], .int .i64 0], []⟩ 8 (by kernel_rfl) (by kernel_rfl) (by kernel_rfl) (by kernel_rfl)) ?_
  intro W base args ds gs before hval0 hW hcnd hsz0 _
  have hval : ∀ (j : Nat) t v, Try.f3.params[j]? = some t → args[j]? = some v → Value.okWide Try.prog W .any base t v := hval0
  have hW' := hW
  obtain ⟨p, q, hA0, hV, rfl, hfz, hnd⟩ := hW
  have hA : DataW.TrodAll enc Try.prog W 0 (fun _ => true) true Try.f3.params.toList args.toList ds p := hA0
  rw [Try.params3] at hA hval
  obtain ⟨v0, vs0, d0, ds0, p0, q0, hargs, rfl, rfl, h0, r0⟩ := trodAll_cons hA
  obtain ⟨v1, vs1, d1, ds1, p1, q1, rfl, rfl, rfl, h1, r1⟩ := trodAll_cons r0
  obtain ⟨v2, vs2, d2, ds2, p2, q2, rfl, rfl, rfl, h2, r2⟩ := trodAll_cons r1
  obtain ⟨v3, vs3, d3, ds3, p3, q3, rfl, rfl, rfl, h3, r3⟩ := trodAll_cons r2
  obtain ⟨rfl, rfl, rfl⟩ := trodAll_nil r3
  obtain rfl : args = #[v0, v1, v2, v3] := by cases args; simp_all
  obtain ⟨rfl, rfl⟩ := trodVars_none hV
  obtain ⟨e0, fit0, rp0⟩ := arg_reads 12 (r := ctLocks) (by kernel_rfl) (hval 0 _ v0 rfl rfl) h0
  obtain ⟨x0, hx0⟩ := fit_locks fit0
  have rp0 : RP (m0 W) _ v0 := hx0 ▸ rp0
  have lt0 : ∀ x ∈ p0, x.block < W.heap.size := by obtain ⟨m, hm⟩ := h0; exact DataW.trod_lt m _ _ _ hm
  obtain ⟨e1, fit1, rp1⟩ := arg_reads 12 (r := ctLock) (by kernel_rfl) (hval 1 _ v1 rfl rfl) h1
  obtain ⟨x1, hx1⟩ := fit_plock fit1
  have rp1 : RP (m0 W) _ v1 := hx1 ▸ rp1
  have lt1 : ∀ x ∈ p1, x.block < W.heap.size := by obtain ⟨m, hm⟩ := h1; exact DataW.trod_lt m _ _ _ hm
  obtain ⟨e2, fit2, rp2⟩ := arg_reads 12 (r := ctLock) (by kernel_rfl) (hval 2 _ v2 rfl rfl) h2
  obtain ⟨x2, hx2⟩ := fit_plock fit2
  have rp2 : RP (m0 W) _ v2 := hx2 ▸ rp2
  have lt2 : ∀ x ∈ p2, x.block < W.heap.size := by obtain ⟨m, hm⟩ := h2; exact DataW.trod_lt m _ _ _ hm
  obtain ⟨e3, fit3, rp3⟩ := arg_reads 12 (r := [.int .i64]) (by kernel_rfl) (hval 3 _ v3 rfl rfl) h3
  obtain ⟨x3, hx3, hw3⟩ := fit_int fit3
  have rp3 : RP (m0 W) _ v3 := hx3 ▸ rp3
  have lt3 : ∀ x ∈ p3, x.block < W.heap.size := by obtain ⟨m, hm⟩ := h3; exact DataW.trod_lt m _ _ _ hm
  have call : Calls Try.prog 3 #[v0, v1, v2, v3] W fun e W' => e = .returned (.bool true) ∧ Below W.heap.size W W' := by
    refine CallEq.calls (c3 x0 x1 x2 x3 []) rfl ?_
    intro j p v hp hv
    match j with
    | 0 => cases hp; cases hv; exact rp0
    | 1 => cases hp; cases hv; exact rp1
    | 2 => cases hp; cases hv; exact rp2
    | 3 => cases hp; cases hv; exact rp3
    | j + 4 => cases hp
  refine call.mono fun e W' ⟨he, bel⟩ => ?_
  subst he
  exact ⟨_, rfl, _, _, _, [], _, [], hW', trodAll_mk1 (shut_bool Try.underlying4 _), (trodAll_cons_mk (Below.trod laidOut (by kernel_rfl) (of_decide_eq_true (by kernel_rfl)) h0 bel lt0) (trodAll_cons_mk (Below.trod laidOut (by kernel_rfl) (of_decide_eq_true (by kernel_rfl)) h1 bel lt1) (trodAll_cons_mk (Below.trod laidOut (by kernel_rfl) (of_decide_eq_true (by kernel_rfl)) h2 bel lt2) (trodAll_cons_mk (Below.trod laidOut (by kernel_rfl) (of_decide_eq_true (by kernel_rfl)) h3 bel lt3) trodAll_mk0)))), rfl, bel.frame _, fun h => by cases h⟩
theorem over : Rows.lockTellsRow.holds Try.pinned (OpenSpec.ofChange Rows.lockTellsSpec) :=
  OpenClaim.holds_of_wide 3 Try.f3 rfl rfl rfl rfl rfl rfl rfl ⟨rfl, rfl, rfl, rfl, rfl⟩ rfl rfl rfl rfl rfl (by kernel_rfl) Try.func3 (by kernel_rfl)
    (of_decide_eq_true (by kernel_rfl)) (by unfold Func.isWrapper; first | (rw [if_pos (by decide +kernel)]; kernel_rfl) | (rw [if_neg (by decide +kernel)]; exact ⟨rfl, rfl⟩))
    (fun os started H enc _ => lifted os started H enc)
theorem proved : Rows.LockTellsSaid := over
#print axioms proved
end Go.Proofs.Ytpmhiiembbfbeaa.lockTells
namespace Go.Proofs.Ytpmhiiembbfbeaa
/-- The row, under a short name, for the claim. -/
theorem lockTells_holds : Rows.LockTellsSaid := lockTells.proved
end Go.Proofs.Ytpmhiiembbfbeaa
