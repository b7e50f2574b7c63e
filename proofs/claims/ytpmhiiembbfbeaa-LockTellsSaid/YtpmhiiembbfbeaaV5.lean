/- What the value machine says of an operation is so: reads, sums, new memory. -/
import Derived.Test.YtpmhiiembbfbeaaV4
import Derived.Laws.World
import Derived.Laws.Entries
import Derived.Laws.IdiomStrings
import Derived.Laws.BytesArg
set_option linter.all false
namespace Go.Proofs.Ve
open Go

/-- An operand's value, where it has one. -/
def ev? (tm : List PV) : Operand → Option PV
  | .tmp t => tm[t]?
  | .const v => some (match v with | .bool b => .kb b | .int k n => .d (.int k n) | .string s => .d (.str s) | .slice none 0 0 => .nils | _ => .any)
  | .func f => some (.func (.func f) [] [])
  | .global _ => some .any
theorem evK_ev {tm : List PV} {x : Operand} {K : PV → Prop} (h : evK tm x K) : ∃ p, ev? tm x = some p ∧ K p := by
  cases x with
  | tmp t => exact getK_spec.1 h
  | const v => simp only [evK] at h; simp only [ev?]; exact ⟨_, rfl, by split at h <;> split <;> first | exact h | simp_all⟩
  | global g => exact ⟨_, rfl, h⟩
  | func f => exact ⟨_, rfl, h⟩
/-- The temporaries that an operation looks at are as told. -/
def EvR (m : M) (a : Act) (tm : List PV) (xs : List Operand) : Prop := ∀ t p, Operand.tmp t ∈ xs → tm[t]? = some p → RP m p (a.eval (.tmp t))
theorem ev_rel {m : M} {a : Act} {tm : List PV} {xs : List Operand} (h : EvR m a tm xs) {x : Operand} (hx : x ∈ xs) {p : PV} (hp : ev? tm x = some p) : RP m p (a.eval x) := by
  cases x with
  | tmp t => exact h t p hx hp
  | const v =>
    simp only [ev?, Option.some.injEq] at hp
    subst hp
    split <;> first | exact .kb _ | exact .d _ _ (.int _ _) | exact .d _ _ (.str _) | exact .nils | exact .any _
  | global g => simp only [ev?, Option.some.injEq] at hp; subst hp; exact .any _
  | func f => simp only [ev?, Option.some.injEq] at hp; subst hp; exact .func _ _ _ _ _ rfl rfl (fun j p v h => by simp at h) (fun j p v h => by simp at h)

/-- What an operation that turns nothing comes to. -/
def OpStep (C : Cx) (H : List (List Blk)) (o : Oper) (tm : List PV) (top : List Blk) (pv : PV) (top' : List Blk) : Prop :=
  ∀ (m : M) (a : Act), Inv m top H → EvR m a tm o.op.operands.toList → (∀ j, top.length ≤ j → j < top'.length → m.ρ 0 j = none) →
    ∀ (next : Act → World → Prop) (Q : Exit → Act → World → Prop),
      (∀ v m', Grow m m' → (∀ l j, ¬ (l = 0 ∧ top.length ≤ j ∧ j < top'.length) → m'.ρ l j = m.ρ l j) →
        (∀ j u k, top.length ≤ j → j < top'.length → m'.ρ 0 j = some u → blkOf u = some k → m.w.heap.size ≤ k) → Inv m' top' H → RP m' pv v → next (a.put o.dst v) m'.w) →
      o.wp C.P a m.w next Q

theorem step_val {C : Cx} {H : List (List Blk)} {o : Oper} {tm : List PV} {top : List Blk} {pv : PV}
    (h : ∀ (m : M) (a : Act), Inv m top H → EvR m a tm o.op.operands.toList → ∃ v, (execOp a.eval o).run C.P m.w = .ok (.value v) m.w ∧ RP m pv v) : OpStep C H o tm top pv top := by
  intro m a hi he hf next Q hn
  obtain ⟨v, hr, hp⟩ := h m a hi he
  unfold Oper.wp
  rw [hr]
  exact hn v m (Grow.refl m) (fun _ _ _ => rfl) (fun j u k h1 h2 => by omega) hi hp

/-! ### a new block -/
theorem heap_old (w : World) (o : Obj) (k : Nat) (h : k < w.heap.size) : (w.alloc o).heap[k]? = w.heap[k]? := by
  show (w.heap.push o)[k]? = _
  rw [Array.getElem?_push, if_neg (by omega)]
def M.new (m : M) (o : Obj) (i : Nat) (v : Value) : M :=
  ⟨m.w.alloc o, fun l j => if l = 0 ∧ j = i then some v else m.ρ l j, fun k => m.U k ∨ k = m.w.heap.size⟩
theorem grow_new (m : M) (o : Obj) (i : Nat) (v : Value) (hf : m.ρ 0 i = none) : Grow m (m.new o i v) where
  os := rfl
  tape := rfl
  output := rfl
  size := by simp [M.new]
  heap := fun k hk => heap_old _ _ _ hk
  ρ := fun l j u hu => by
    simp only [M.new]
    rw [if_neg]
    · exact hu
    · rintro ⟨rfl, rfl⟩; rw [hf] at hu; cases hu
  U := fun k hk => by simp only [M.new]; constructor
                      · rintro (h | h)
                        · exact h
                        · omega
                      · exact .inl
theorem getB_snoc_old {top : List Blk} {b : Blk} {H : List (List Blk)} {l i : Nat} (h : ¬ (l = 0 ∧ i = top.length)) : getB (top ++ [b]) H l i = getB top H l i := by
  cases l with
  | zero =>
    simp only [getB]
    rcases Nat.lt_or_ge i top.length with hi | hi
    · rw [List.getElem?_append_left hi]
    · rw [List.getElem?_append_right hi, List.getElem?_eq_none hi]
      have : i ≠ top.length := fun e => h ⟨rfl, e⟩
      rw [List.getElem?_eq_none (by simp; omega)]
  | succ l => rfl
theorem getB_snoc_new {top : List Blk} {b : Blk} {H : List (List Blk)} : getB (top ++ [b]) H 0 top.length = some b := by simp [getB]
theorem inv_new {m : M} {top : List Blk} {H : List (List Blk)} (hi : Inv m top H) {o : Obj} {v : Value} (hf : m.ρ 0 top.length = none) (hv : blkOf v = some m.w.heap.size) {b : Blk}
    (hb : BlkOk (m.new o top.length v) 0 top.length b) : Inv (m.new o top.length v) (top ++ [b]) H := by
  have hg := grow_new m o top.length v hf
  refine ⟨fun l i b' hb' => ?_, fun l i b1 l' i' b2 v1 v2 k h1 hl1 h2 hl2 hv1 hv2 hk1 hk2 => ?_, fun l i b1 v1 k h1 hl1 hv1 hk => ?_, fun k hk => ?_⟩
  · by_cases h : l = 0 ∧ i = top.length
    · obtain ⟨rfl, rfl⟩ := h
      rw [getB_snoc_new] at hb'
      cases hb'; exact hb
    · rw [getB_snoc_old h] at hb'
      refine (hi.blk l i b' hb').keep hg.keep (by simp only [M.new]; rw [if_neg h]) (fun u k hlive hu hk => hg.heap k ?_)
      exact hi.lt k (hi.own l i b' u k hb' hlive hu hk)
  · by_cases h : l = 0 ∧ i = top.length <;> by_cases h' : l' = 0 ∧ i' = top.length
    · exact ⟨h.1.trans h'.1.symm, h.2.trans h'.2.symm⟩
    · exfalso
      simp only [M.new] at hv1 hv2
      rw [if_pos h] at hv1; rw [if_neg h'] at hv2
      cases hv1
      rw [hv] at hk1; cases hk1
      rw [getB_snoc_old h'] at h2
      have := hi.lt _ (hi.own l' i' b2 v2 _ h2 hl2 hv2 hk2)
      omega
    · exfalso
      simp only [M.new] at hv1 hv2
      rw [if_neg h] at hv1; rw [if_pos h'] at hv2
      cases hv2
      rw [hv] at hk2; cases hk2
      rw [getB_snoc_old h] at h1
      have := hi.lt _ (hi.own l i b1 v1 _ h1 hl1 hv1 hk1)
      omega
    · simp only [M.new] at hv1 hv2
      rw [if_neg h] at hv1; rw [if_neg h'] at hv2
      rw [getB_snoc_old h] at h1; rw [getB_snoc_old h'] at h2
      exact hi.inj l i b1 l' i' b2 v1 v2 k h1 hl1 h2 hl2 hv1 hv2 hk1 hk2
  · by_cases h : l = 0 ∧ i = top.length
    · simp only [M.new] at hv1 ⊢
      rw [if_pos h] at hv1; cases hv1
      rw [hv] at hk; cases hk
      exact .inr rfl
    · simp only [M.new] at hv1 ⊢
      rw [if_neg h] at hv1
      rw [getB_snoc_old h] at h1
      exact .inl (hi.own l i b1 v1 k h1 hl1 hv1 hk)
  · simp only [M.new, World.size_alloc] at hk ⊢
    rcases hk with hk | hk
    · have := hi.lt k hk; omega
    · omega
theorem heap_new (w : World) (o : Obj) : (w.alloc o).heap[w.heap.size]? = some o := by unfold World.alloc; simp

/-- An operation that makes one block. -/
theorem step_new {C : Cx} {H : List (List Blk)} {o : Oper} {tm : List PV} {top : List Blk} {pv : PV} {b : Blk}
    (h : ∀ (m : M) (a : Act), Inv m top H → EvR m a tm o.op.operands.toList → ∃ v vs e u, (execOp a.eval o).run C.P m.w = .ok (.value v) (m.w.alloc (.cells vs e (0, 0))) ∧ blkOf u = some m.w.heap.size ∧
      (m.ρ 0 top.length = none → BlkOk (m.new (.cells vs e (0, 0)) top.length u) 0 top.length b ∧ RP (m.new (.cells vs e (0, 0)) top.length u) pv v)) :
    OpStep C H o tm top pv (top ++ [b]) := by
  intro m a hi he hf next Q hn
  obtain ⟨v, vs, e, u, hr, hu, hh⟩ := h m a hi he
  have hfree : m.ρ 0 top.length = none := hf _ (Nat.le_refl _) (by simp)
  obtain ⟨hb, hp⟩ := hh hfree
  unfold Oper.wp
  rw [hr]
  refine hn v (m.new (.cells vs e (0, 0)) top.length u) (grow_new _ _ _ _ hfree) (fun l j hj => ?_) (fun j u' k h1 h2 hu' hk => ?_) (inv_new hi hfree hu hb) hp
  · simp only [M.new]
    rw [if_neg]
    rintro ⟨rfl, rfl⟩
    exact hj ⟨rfl, Nat.le_refl _, by simp⟩
  · obtain rfl : j = top.length := by simp at h2; omega
    simp only [M.new, and_self, if_true, Option.some.injEq] at hu'
    subst hu'
    rw [hu] at hk
    cases hk
    exact Nat.le_refl _

theorem rp_zero (m : M) (v : Value) : RP m (pvZero v) v := by
  unfold pvZero
  split <;> first | exact .kb _ | exact .d _ _ (.int _ _) | exact .d _ _ (.str _) | exact .nils | exact .any _
theorem row_info {C : Cx} (hC : C.Ok) {r : TyRow} (hr : r ∈ C.L) : ∃ i z d, C.P.info? r.t = some i ∧ i.size = r.size ∧ i.bytes = r.bytes ∧ i.zero = some z ∧ z.cells.toList.map pvZero = r.zero ∧ C.P.underlying r.t = some d ∧ tyOf d = r.ty := by
  obtain ⟨h1, h2⟩ := hC.rows r hr
  obtain ⟨i, hi, h1⟩ := Option.map_eq_some_iff.1 h1
  obtain ⟨d, hd, h2⟩ := Option.map_eq_some_iff.1 h2
  simp only [Prod.mk.injEq] at h1
  obtain ⟨h3, h4, h5⟩ := h1
  obtain ⟨z, hz, h5⟩ := Option.map_eq_some_iff.1 h5
  exact ⟨i, z, d, hi, h3, h4, hz, h5, hd, h2⟩
theorem run_under {P : Program} {t : TypeId} {d : TypeDesc} (h : P.underlying t = some d) (w : World) : (underlying t).run P w = .ok d w := run_underlying h w
theorem run_size {P : Program} {t : TypeId} {i : TypeInfo} (h : P.info? t = some i) (w : World) : (sizeOf t).run P w = .ok i.size w := by simp [sizeOf, typeInfo, h]
theorem run_zero {P : Program} {t : TypeId} {i : TypeInfo} {z : Value} (h : P.info? t = some i) (hz : i.zero = some z) (w : World) : (zeroValue t).run P w = .ok z w := by simp [zeroValue, typeInfo, h, hz]
theorem run_agg {P : Program} {t : TypeId} {d : TypeDesc} (h : P.underlying t = some d) (w : World) : (isAgg t).run P w = .ok (tyOf d).isAgg w := by
  simp only [isAgg, Sem.run_bind, run_under h, Result.andThen_ok]
  cases d <;> rfl
theorem cells_rel {p : PV} {K : List PV → Prop} (h : cellsK p K) : ∃ cs, K cs ∧ (∀ q ∈ cs, q.cell = true) ∧ ∀ m v, RP m p v → v.cells.size = cs.length ∧ ∀ (j : Nat) q u, cs[j]? = some q → v.cells[j]? = some u → RP m q u := by
  have all : ∀ {cs : List PV} {K : Prop}, allCellK cs K → (∀ q ∈ cs, q.cell = true) ∧ K := by
    intro cs K h
    induction cs with
    | nil => exact ⟨fun q hq => (by cases hq), h⟩
    | cons c cs ih =>
      rw [allCellK_cons] at h
      split at h
      · rename_i hc
        obtain ⟨h1, h2⟩ := ih h
        exact ⟨fun q hq => by cases hq with | head => exact hc | tail _ hq => exact h1 q hq, h2⟩
      · exact h.elim
  have one : ∀ (p : PV), p.cell = true → K [p] → ∃ cs, K cs ∧ (∀ q ∈ cs, q.cell = true) ∧ ∀ m v, RP m p v → v.cells.size = cs.length ∧ ∀ (j : Nat) q u, cs[j]? = some q → v.cells[j]? = some u → RP m q u := by
    intro p hp hk
    refine ⟨[p], hk, fun q hq => by simp at hq; subst hq; exact hp, fun m v hv => ?_⟩
    have h1 := hv.one hp
    have hc : v.cells = #[v] := by cases v <;> first | rfl | (simp [Value.oneCell'] at h1)
    rw [hc]
    refine ⟨rfl, fun j q u hj hu => ?_⟩
    cases j with
    | zero => simp at hj hu; subst hj; subst hu; exact hv
    | succ j => simp at hj
  cases p with
  | any => exact h.elim
  | tuple cs => exact h.elim
  | agg cs =>
    obtain ⟨h1, h2⟩ := all h
    refine ⟨cs, h2, h1, fun m v hv => ?_⟩
    cases hv with
    | agg _ vs e hh => exact ⟨e.symm, hh⟩
  | kb b => exact one _ rfl h
  | ub => exact one _ rfl h
  | d x => exact one _ rfl h
  | nils => exact one _ rfl h
  | row l i n => exact one _ rfl h
  | ptr l i o => exact one _ rfl h
  | rptr l i sz e j => exact one _ rfl h
  | iptr cs => exact one _ rfl h
  | func fn a b => exact one _ rfl h
end Go.Proofs.Ve
