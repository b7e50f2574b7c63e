/- What the value machine says of an operation is so: all that turns nothing, but calls. -/
import Derived.Test.YtpmhiiembbfbeaaV8
set_option linter.all false
namespace Go.Proofs.Ve
open Go

theorem mem_tmp {xs : List Operand} {x : Operand} (h : x ∈ xs) : x ∈ xs := h
theorem evsK_spec {tm : List PV} {ys : List Operand} : ∀ {xs : List Operand} {K : List PV → Prop}, evsK tm xs K → (∀ x ∈ xs, x ∈ ys) → ∃ ps, K ps ∧ ps.length = xs.length ∧
    ∀ m a, EvR m a tm ys → ∀ (j : Nat) p x, ps[j]? = some p → xs[j]? = some x → RP m p (a.eval x)
  | [], K, h, _ => ⟨[], h, rfl, fun m a _ j p x hp => by simp at hp⟩
  | x :: xs, K, h, hs => by
    obtain ⟨p, hp, h⟩ := evK_ev h
    obtain ⟨ps, hk, hl, hr⟩ := evsK_spec h (fun x hx => hs x (List.mem_cons_of_mem _ hx))
    refine ⟨p :: ps, hk, by simp [hl], fun m a he j q y hq hy => ?_⟩
    cases j with
    | zero => simp at hq hy; subst hq; subst hy; exact ev_rel he (hs x List.mem_cons_self) hp
    | succ j => exact hr m a he j q y hq hy
theorem optEvK_spec {tm : List PV} {x : Option Operand} {K : Option PV → Prop} (h : optEvK tm x K) :
    ∃ q, K q ∧ (x = none → q = none) ∧ ∀ y, x = some y → ∃ p, q = some p ∧ ev? tm y = some p := by
  cases x with
  | none => exact ⟨none, h, fun _ => rfl, fun y hy => by cases hy⟩
  | some x =>
    obtain ⟨p, hp, h⟩ := evK_ev h
    exact ⟨some p, h, fun h => (by cases h), fun y hy => by cases hy; exact ⟨p, rfl, hp⟩⟩

theorem run_places {P : Program} {w : World} : ∀ (l : List Field), (∀ f ∈ l, ∃ i, P.info? f.type = some i) →
    (l.mapM fun f => (do pure (f.offset, ← sizeOf f.type) : Sem (Nat × Nat))).run P w = .ok (l.map fun f => (f.offset, P.cellsOf f.type)) w
  | [], _ => by simp
  | f :: l, h => by
    obtain ⟨i, hi⟩ := h f List.mem_cons_self
    have hp := run_places (P := P) (w := w) l (fun f hf => h f (List.mem_cons_of_mem _ hf))
    rw [List.mapM_cons]
    simp only [Sem.run_bind, run_size hi, Result.andThen_ok, Sem.run_pure, hp, List.map_cons, Program.cellsOf, hi, Option.map_some, Option.getD_some]

theorem build_run {C : Cx} (hC : C.Ok) {r : TyRow} (hr : r ∈ C.L) (hagg : r.ty.isAgg = true) : ∃ (pl : Nat → Option (Nat × Nat)), (∀ i K, placeK C r.ty i K → ∃ o s, pl i = some (o, s) ∧ K o s) ∧
    ∀ (w : World) (parts : Array (Nat × Value)), ∃ zero : Array Value, zero.toList.map pvZero = r.zero ∧ ∀ arr, Instr.fill pl zero parts.toList = some arr → (Instr.build r.t parts).run C.P w = .ok (.agg arr) w := by
  obtain ⟨i, z, d, hi, hs, hb, hz, hzz, hd, hty⟩ := row_info hC hr
  cases hT : r.ty with
  | struct fs =>
    rw [hT] at hty
    obtain ⟨fields, rfl⟩ : ∃ f, d = .struct f := by cases d <;> simp [tyOf] at hty <;> exact ⟨_, rfl⟩
    simp only [tyOf, Ty.struct.injEq] at hty
    have hinfo : ∀ f ∈ fields.toList, ∃ i, C.P.info? f.type = some i := by
      intro f hf
      have hc := hC.closed
      unfold closedB at hc
      rw [List.all_eq_true] at hc
      have := hc r hr
      rw [hT] at this
      simp only [List.all_eq_true, List.any_eq_true] at this
      obtain ⟨r', hr', hb'⟩ := this (f.offset, f.type) (by rw [← hty]; exact List.mem_map_of_mem hf)
      obtain ⟨i', _, _, hi', _⟩ := row_info hC hr'
      have e := Nat.eq_of_beq_eq_true hb'
      exact ⟨i', by rw [show f.type = r'.t from e.symm]; exact hi'⟩
    refine ⟨fun j => (fields.toList.map fun f => (f.offset, C.P.cellsOf f.type))[j]?, fun i K h => ?_, fun w parts => ⟨z.cells, hzz, fun arr hf => ?_⟩⟩
    · obtain ⟨⟨o, ft⟩, hf, h2⟩ := getK_spec.1 h
      obtain ⟨r', hr', hft, h3⟩ := lookK_spec h2
      obtain ⟨i', z', d', hi', hs', _⟩ := row_info hC hr'
      rw [← hty, List.getElem?_map] at hf
      obtain ⟨fl, hfl, he⟩ := Option.map_eq_some_iff.1 hf
      simp only [Prod.mk.injEq] at he
      obtain ⟨rfl, he⟩ := he
      exact ⟨fl.offset, r'.size, by simp only [List.getElem?_map, hfl, Option.map_some, he, ← hft, Program.cellsOf, hi', Option.getD_some, hs'], h3⟩
    · simp only [Instr.build, Sem.run_bind, run_zero hi hz, Result.andThen_ok, run_under hd]
      rw [Array.mapM_eq_mapM_toList]
      simp only [Sem.run_map, run_places fields.toList hinfo, Result.andThen_ok]
      rw [show (fun x => (fields.toList.map fun f => (f.offset, C.P.cellsOf f.type)).toArray[x]?) = (fun j => (fields.toList.map fun f => (f.offset, C.P.cellsOf f.type))[j]?) from funext fun j => by simp, hf]
      rfl
  | arr n e =>
    rw [hT] at hty
    obtain ⟨n', e', rfl⟩ : ∃ n e, d = .array n e := by cases d <;> simp [tyOf] at hty <;> exact ⟨_, _, rfl⟩
    simp only [tyOf, Ty.arr.injEq] at hty
    obtain ⟨rfl, rfl⟩ := hty
    refine ⟨fun j => some (j * C.P.cellsOf e', C.P.cellsOf e'), fun i K h => ?_, fun w parts => ⟨z.cells, hzz, fun arr hf => ?_⟩⟩
    · obtain ⟨r', hr', he', h3⟩ := lookK_spec h
      obtain ⟨i', z', d', hi', hs', _⟩ := row_info hC hr'
      refine ⟨_, _, rfl, ?_⟩
      simp only [Program.cellsOf, ← he', hi', Option.map_some, Option.getD_some, hs']; exact h3
    · have hc := hC.closed
      unfold closedB at hc
      rw [List.all_eq_true] at hc
      have := hc r hr
      rw [hT] at this
      simp only [List.any_eq_true] at this
      obtain ⟨r', hr', hb'⟩ := this
      obtain ⟨i', _, _, hi', hs', _⟩ := row_info hC hr'
      have e := Nat.eq_of_beq_eq_true hb'
      rw [e] at hi'
      simp only [Program.cellsOf, hi', Option.map_some, Option.getD_some] at hf
      simp only [Instr.build, Sem.run_bind, run_zero hi hz, Result.andThen_ok, run_under hd, run_size hi', hf]
      rfl
  | bool => rw [hT] at hagg; cases hagg
  | int k => rw [hT] at hagg; cases hagg
  | str => rw [hT] at hagg; cases hagg
  | slice e => rw [hT] at hagg; cases hagg
  | other => rw [hT] at hagg; cases hagg
end Go.Proofs.Ve
