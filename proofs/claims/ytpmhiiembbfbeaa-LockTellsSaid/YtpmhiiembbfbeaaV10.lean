/- What the value machine says of an operation is so: put together. -/
import Derived.Test.YtpmhiiembbfbeaaV9
set_option linter.all false
namespace Go.Proofs.Ve
open Go

theorem elems_fill {tm : List PV} {xs : List Operand} {size : Nat} : ∀ (parts : List (Nat × Operand)) (n0 : Nat) (K : List (List DV) → Prop), elemsK tm size n0 parts K → (∀ x ∈ parts, x.2 ∈ xs) →
    ∃ es, K es ∧ es.length = parts.length ∧ (∀ x ∈ es, x.length = size) ∧ ∀ (m : M) (a : Act) (arr : Array Value), EvR m a tm xs → arr.size = (n0 + parts.length) * size →
      ∃ arr', Instr.fill (fun i => some (i * size, size)) arr (parts.map fun x => (x.1, a.eval x.2)) = some arr' ∧ arr'.size = arr.size ∧ (∀ k, k < n0 * size → arr'[k]? = arr[k]?) ∧
        ∀ (i : Nat) x (j : Nat) y u, es[i]? = some x → x[j]? = some y → arr'[(n0 + i) * size + j]? = some u → RD m.w m.ok y u
  | [], n0, K, h, _ => ⟨[], h, rfl, by simp, fun m a arr _ hs => ⟨arr, rfl, rfl, fun k _ => rfl, fun i x j y u hx => by simp at hx⟩⟩
  | (i, x) :: rest, n0, K, h, hsub => by
    simp only [elemsK, ifK] at h
    split at h
    case h_2 => exact h.elim
    rename_i hi
    obtain rfl := Nat.eq_of_beq_eq_true hi
    obtain ⟨p, hp, h⟩ := evK_ev h
    obtain ⟨ys, h, hcell, hys⟩ := cells_rel h
    rw [lenK_spec] at h
    split at h
    case h_2 => exact h.elim
    rename_i hb
    have hb := Nat.eq_of_beq_eq_true hb
    obtain ⟨ds, h, hdl, hds⟩ := dvsK_spec h
    obtain ⟨es, hk, hl, hes, hh⟩ := elems_fill rest (i + 1) _ h (fun x hx => hsub x (List.mem_cons_of_mem _ hx))
    refine ⟨ds :: es, hk, by simp [hl], fun z hz => by cases hz with | head => omega | tail _ hz => exact hes z hz, fun m a arr he hs => ?_⟩
    obtain ⟨hsz, hcs⟩ := hys m (a.eval x) (ev_rel he (hsub (i, x) List.mem_cons_self) hp)
    have hle : i * size + size ≤ arr.size := by
      rw [hs, ← Nat.succ_mul]
      exact Nat.mul_le_mul_right _ (by simp)
    obtain ⟨arr2, hf, hs2, hg⟩ := fill_cons (place := fun i => some (i * size, size)) (cells := arr) (i := i) (v := a.eval x) (rest := rest.map fun x => (x.1, a.eval x.2)) rfl (by rw [hsz, hb]) hle
    obtain ⟨arr', h1, h2, h3, h4⟩ := hh m a arr2 he (by rw [hs2, hs]; simp; congr 1; omega)
    refine ⟨arr', by rw [List.map_cons]; exact hf.trans h1, by rw [h2, hs2], fun k hk => ?_, fun e z j y u hz hy hu => ?_⟩
    · rw [h3 k (by rw [Nat.succ_mul]; omega), hg k, if_neg (by omega)]
    · cases e with
      | zero =>
        simp at hz
        subst hz
        have hjl : j < size := by have := (List.getElem?_eq_some_iff.1 hy).1; omega
        rw [Nat.add_zero, h3 _ (by rw [Nat.succ_mul]; omega), hg, if_pos (by omega), show i * size + j - i * size = j by omega] at hu
        refine (show u = ((fun j => ((a.eval x).cells[j]?).getD undef) j) from by simp [hu]) ▸ hds m (fun j => ((a.eval x).cells[j]?).getD undef) (fun j q hq => ?_) j y hy
        have hjl2 : j < ys.length := (List.getElem?_eq_some_iff.1 hq).1
        obtain ⟨c, hc⟩ : ∃ c, (a.eval x).cells[j]? = some c := ⟨_, Array.getElem?_eq_getElem (by omega)⟩
        rw [hc]
        exact hcs j q c hq hc
      | succ e =>
        refine h4 e z j y u (by simpa using hz) hy ?_
        rw [show i + 1 + e = i + (e + 1) by omega]
        exact hu

theorem ex_run {C : Cx} {o : Oper} {a : Act} {w : World} {s : Sem Value} {v : Value} {w' : World} (h : execOp a.eval o = (do pure (.value (← s)))) (hr : s.run C.P w = .ok v w') : (execOp a.eval o).run C.P w = .ok (.value v) w' := by
  rw [h]; simp [hr]

theorem conv_step {C : Cx} (hC : C.Ok) {H : List (List Blk)} {o : Oper} {s d : Nat} {x : Operand} (ho : o.op = .convert s d x) {tm : List PV} {top : List Blk} {p : PV} (hp : ev? tm x = some p) {K : PV → List Blk → Prop}
    (h : convK C s d p fun q => K q top) : ∃ pv top', K pv top' ∧ top <+: top' ∧ OpStep C H o tm top pv top' := by
  have mx : x ∈ o.op.operands.toList := by simp [ho, Op.operands]
  obtain ⟨rs, hrs, ht_, h_⟩ := lookK_spec h
  clear h
  subst ht_
  obtain ⟨rd, hrd, ht_, h⟩ := lookK_spec h_
  clear h_
  subst ht_
  obtain ⟨i, z, ds, hi, hs, hb, hz, hzz, hd, hty⟩ := row_info hC hrs
  obtain ⟨i', z', dd, hi', hs', hb', hz', hzz', hd', hty'⟩ := row_info hC hrd
  have ex : ∀ (a : Act), execOp a.eval o = (do pure (.value (← convert rs.t rd.t (a.eval x)))) := fun a => by simp [execOp, ho]
  split at h
  · rename_i k n
    cases hT : rd.ty <;> rw [hT] at h <;> try exact h.elim
    rename_i k'
    cases hS : rs.ty <;> rw [hS] at h <;> try exact h.elim
    rename_i k0
    rw [hT] at hty'
    rw [hS] at hty
    obtain rfl : dd = .int k' := by cases dd <;> simp [tyOf] at hty' <;> rw [hty']
    obtain rfl : ds = .int k0 := by cases ds <;> simp [tyOf] at hty <;> rw [hty]
    refine ⟨_, top, h _ rfl, List.prefix_refl _, step_val fun m a hinv he => ?_⟩
    have := ev_rel he mx hp
    generalize hv : a.eval x = v at this
    cases this with
    | d _ _ hv2 =>
      cases hv2
      refine ⟨_, ex_run (ex a) (by rw [hv]; simp only [convert, Sem.run_bind, run_under hd, run_under hd', Result.andThen_ok]; rfl), rd_int _ _⟩
  · rename_i str
    cases hS : rs.ty <;> rw [hS] at h <;> try exact h.elim
    cases hT : rd.ty <;> rw [hT] at h <;> try exact h.elim
    rename_i e
    obtain ⟨re, hre, ht_, h_⟩ := lookK_spec h
    clear h
    subst ht_
    obtain ⟨i2, z2, de, hi2, hs2, hb2, hz2, hzz2, hde, htye⟩ := row_info hC hre
    split at h_
    case h_2 => exact h_.elim
    rename_i hE
    obtain ⟨hsz1, hsize, hk⟩ := h_
    rw [hS] at hty
    rw [hT] at hty'
    rw [hE] at htye
    obtain rfl : ds = .string := by cases ds <;> simp [tyOf] at hty <;> rfl
    obtain rfl : dd = .slice re.t := by cases dd <;> simp [tyOf] at hty' <;> rw [hty']
    obtain rfl : de = .int .u8 := by cases de <;> simp [tyOf] at htye <;> rw [htye]
    refine ⟨_, top, hk, List.prefix_refl _, fun m a hinv he hfree next Q hnext => ?_⟩
    have := ev_rel he mx hp
    generalize hv : a.eval x = v at this
    cases this with
    | d _ _ hv2 =>
      cases hv2
      have hrun := Lib.run_convert_string_bytes (P := C.P) m.w rs.t rd.t re.t str hd hd' hde
      unfold Oper.wp
      rw [ex_run (ex a) (by rw [hv]; exact hrun)]
      have hsz := Lib.bytesWorld_size m.w re.t str
      have hg : Grow m ⟨Lib.bytesWorld m.w re.t str, m.ρ, m.U⟩ :=
        ⟨rfl, rfl, rfl, by show _ ≤ (Lib.bytesWorld m.w re.t str).heap.size; omega, fun k hk => Lib.bytesWorld_at_old _ _ _ _ hk, fun _ _ _ h => h, fun _ _ => Iff.rfl⟩
      refine hnext _ _ hg (fun _ _ _ => rfl) (fun j u k h1 h2 => by omega) ⟨fun l j b hb => (hinv.blk l j b hb).keep hg.keep rfl (fun v k hl hv hk => Lib.bytesWorld_at_old _ _ _ _ (hinv.lt k (hinv.own l j b v k hb hl hv hk))), hinv.inj, hinv.own, fun k hk => Nat.lt_of_lt_of_le (hinv.lt k hk) hg.size⟩ ?_
      have hdl : str.data.toList.length = str.size := by rw [Array.length_toList]; rfl
      refine .d _ _ (.sl 1 _ _ _ _ ⟨m.w.heap.size, 0, none⟩ (fun k => .int .u8 (str.data.toList.getD k 0).toNat) (by simp [hdl]) (grownCap_ge _ _ _ _) (by omega) (fun _ => rfl) (fun y hy => by simp at hy; obtain ⟨b, _, rfl⟩ := hy; rfl) (fun k y j w hy hw => ?_) (fun k y j w hy hw => ?_))
      · rw [List.getElem?_map] at hy
        obtain ⟨b, hb, rfl⟩ := Option.map_eq_some_iff.1 hy
        have hkl : k < str.size := by rw [← hdl]; exact (List.getElem?_eq_some_iff.1 hb).1
        cases j with
        | succ j => simp at hw
        | zero =>
          refine ⟨⟨?_, fun hu => ?_⟩, ?_⟩
          · show m.w.heap.size < (Lib.bytesWorld m.w re.t str).heap.size; omega
          · have := hinv.lt _ hu; simp at this
          · rw [add_none, Nat.zero_add, Nat.mul_one, Nat.add_zero]; exact Lib.bytesWorld_cell m.w re.t str k hkl
      · rw [List.getElem?_map] at hy
        obtain ⟨b, hb, rfl⟩ := Option.map_eq_some_iff.1 hy
        cases j with
        | succ j => simp at hw
        | zero =>
          simp at hw
          subst hw
          simp only [Nat.mul_one, Nat.add_zero, List.getD_eq_getElem?_getD, hb, Option.getD_some]
          exact .int _ _
  · rename_i xs
    cases hS : rs.ty <;> rw [hS] at h <;> try exact h.elim
    rename_i e
    cases hT : rd.ty <;> rw [hT] at h <;> try exact h.elim
    obtain ⟨re, hre, ht_, h_⟩ := lookK_spec h
    clear h
    subst ht_
    obtain ⟨i2, z2, de, hi2, hs2, hb2, hz2, hzz2, hde, htye⟩ := row_info hC hre
    split at h_
    case h_2 => exact h_.elim
    rename_i hE
    obtain ⟨bs, rfl, hk⟩ := h_
    rw [hS] at hty
    rw [hT] at hty'
    rw [hE] at htye
    obtain rfl : ds = .slice re.t := by cases ds <;> simp [tyOf] at hty <;> rw [hty]
    obtain rfl : dd = .string := by cases dd <;> simp [tyOf] at hty' <;> rfl
    obtain rfl : de = .int .u8 := by cases de <;> simp [tyOf] at htye <;> rw [htye]
    refine ⟨_, top, hk, List.prefix_refl _, step_val fun m a hinv he => ?_⟩
    have := ev_rel he mx hp
    generalize hv : a.eval x = v at this
    cases this with
    | d _ _ hv2 =>
      cases hv2 with
      | sl sz _ A n c ad u hn hc hm hA hsz hcell hr =>
        refine ⟨.string ⟨bs.toArray⟩, ex_run (ex a) ?_, .d _ _ (.str _)⟩
        rw [hv]
        simp only [List.length_map] at hn
        rcases Nat.eq_zero_or_pos n with h0 | h0
        · subst h0
          obtain rfl : bs = [] := List.eq_nil_of_length_eq_zero hn
          cases A with
          | none => rw [run_convert_bytes_nil m.w rs.t re.t hd hde 0 c rd.t hd']; rfl
          | some a0 =>
            simp only [convert, Sem.run_bind, run_under hd, run_under hd', run_under hde, Result.andThen_ok, Conv.bytesToString, loadCells, loadCellsFrom, Sem.run_pure]
            rfl
        · have hAs := hA h0
          subst hAs
          have hc1 : ∀ k, k < n → m.w.cell? (ad.add k) = some (.int .u8 ((bs.map fun b => (b.toNat : Int)).getD k 0)) := fun k hk => by
            have hb : bs[k]? = some (bs[k]'(by omega)) := List.getElem?_eq_getElem (by omega)
            have h1 : (bs.map fun b => [DV.int .u8 (b.toNat : Int)])[k]? = some [DV.int .u8 ((bs[k]'(by omega)).toNat : Int)] := by rw [List.getElem?_map, hb]; rfl
            have hs1 : sz = 1 := (hsz _ (List.mem_of_getElem? h1)).symm
            subst hs1
            have h2 := (hcell k _ 0 _ h1 rfl).2
            have h3 := hr k _ 0 _ h1 rfl
            rw [Nat.mul_one, Nat.add_zero] at h2 h3
            rw [h2]
            generalize u k = uu at h3
            cases h3
            simp [List.getD_eq_getElem?_getD, hb]
          have hspot : ad.spot = none := by
            have := hc1 0 h0
            rw [show ad.add 0 = ad from rfl] at this
            unfold World.cell? at this
            cases hsp : ad.spot with
            | none => rfl
            | some q => rw [hsp] at this; split at this <;> simp at this
          obtain ⟨b0, off, sp⟩ := ad
          simp only at hspot
          subst hspot
          rw [run_convert_bytes_arg m.w rs.t re.t hd hde b0 off n c (bs.map fun b => (b.toNat : Int)) (by simp [hn]) (fun k hk => by have := hc1 k hk; rwa [add_none] at this) rd.t hd']
          simp [strOfNums, Function.comp_def]
  · exact h.elim

/-- What an operation without a call comes to. -/
theorem opK_plain {C : Cx} (hC : C.Ok) {H : List (List Blk)} {o : Oper} {tm : List PV} {top : List Blk} {K : PV → List Blk → Prop} (hcall : ∀ c, o.op ≠ .call c) (h : opK C H o.op tm top K) :
    ∃ pv top', K pv top' ∧ top <+: top' ∧ OpStep C H o tm top pv top' := by
  cases ho : o.op with
  | move x =>
    rw [ho] at h
    obtain ⟨p, hp, h⟩ := evK_ev h
    exact ⟨p, top, h, List.prefix_refl _, step_val fun m a hi he => ⟨a.eval x, by simp [execOp, ho], ev_rel he (by simp [ho, Op.operands]) hp⟩⟩
  | assign x =>
    rw [ho] at h
    obtain ⟨p, hp, h⟩ := evK_ev h
    exact ⟨p, top, h, List.prefix_refl _, step_val fun m a hi he => ⟨a.eval x, by simp [execOp, ho], ev_rel he (by simp [ho, Op.operands]) hp⟩⟩
  | pick c x y =>
    rw [ho] at h
    obtain ⟨p, hp, h⟩ := evK_ev h
    have mc : c ∈ o.op.operands.toList := by simp [ho, Op.operands]
    have mx : x ∈ o.op.operands.toList := by simp [ho, Op.operands]
    have my : y ∈ o.op.operands.toList := by simp [ho, Op.operands]
    have ex : ∀ (a : Act) (w : World) (b : Bool), a.eval c = .bool b → (execOp a.eval o).run C.P w = .ok (.value (if b then a.eval x else a.eval y)) w := fun a w b hb => by
      simp [execOp, ho, asBool, hb]
    cases p with
    | kb b =>
      cases b with
      | true =>
        obtain ⟨q, hq, h⟩ := evK_ev h
        refine ⟨q, top, h, List.prefix_refl _, step_val fun m a hi he => ?_⟩
        have := ev_rel he mc hp
        generalize hv : a.eval c = v at this
        cases this
        exact ⟨_, ex a _ true hv, ev_rel he mx hq⟩
      | false =>
        obtain ⟨q, hq, h⟩ := evK_ev h
        refine ⟨q, top, h, List.prefix_refl _, step_val fun m a hi he => ?_⟩
        have := ev_rel he mc hp
        generalize hv : a.eval c = v at this
        cases this
        exact ⟨_, ex a _ false hv, ev_rel he my hq⟩
    | d z =>
      obtain ⟨q, hq, h⟩ := evK_ev h
      obtain ⟨q', hq', h⟩ := evK_ev h
      cases z with
      | bool b =>
        have fin : ∀ (bx by_ : Bool), (∀ m v, RP m q v → v = .bool bx) → (∀ m v, RP m q' v → v = .bool by_) → K (.d (.bool (bif b then bx else by_))) top →
            ∃ pv top', K pv top' ∧ top <+: top' ∧ OpStep C H o tm top pv top' := by
          intro bx by_ hbx hby hk
          refine ⟨_, top, hk, List.prefix_refl _, step_val fun m a hi he => ?_⟩
          have := ev_rel he mc hp
          generalize hv : a.eval c = v at this
          cases this with
          | d _ _ hb =>
            cases hb
            refine ⟨_, ex a _ b hv, ?_⟩
            rw [hbx m _ (ev_rel he mx hq), hby m _ (ev_rel he my hq')]
            cases b <;> exact rd_bool _
        have d1 : ∀ (b : Bool) m v, RP m (.d (.bool b)) v → v = .bool b := fun b m v hv => by cases hv with | d _ _ hv => cases hv; rfl
        have d2 : ∀ (b : Bool) m v, RP m (.kb b) v → v = .bool b := fun b m v hv => by cases hv; rfl
        simp only [pickK] at h
        split at h
        · exact fin _ _ (d1 _) (d1 _) h
        · exact fin _ _ (d2 _) (d1 _) h
        · exact fin _ _ (d1 _) (d2 _) h
        · exact fin _ _ (d2 _) (d2 _) h
        · exact h.elim
      | _ => exact h.elim
    | _ =>
      obtain ⟨q, hq, h⟩ := evK_ev h
      obtain ⟨q', hq', h⟩ := evK_ev h
      exact h.elim
  | alloc e =>
    rw [ho] at h
    obtain ⟨r, hr, ht_, h_⟩ := lookK_spec h
    clear h
    subst ht_
    have h := h_
    clear h_
    unfold newK at h
    rw [lenK_spec, snocK_spec] at h
    obtain ⟨i, z, d, hi, hs, hb, hz, hzz, hd, hty⟩ := row_info hC hr
    refine ⟨_, _, h, List.prefix_append _ _, step_new fun m a _ he => ⟨.pointer (some ⟨m.w.heap.size, 0, none⟩), z.cells, r.t, .pointer (some ⟨m.w.heap.size, 0, none⟩), ?_, rfl, fun hf => ⟨?_, .ptr _ _ _ _ (by simp [M.new])⟩⟩⟩
    · simp [execOp, ho, Instr.alloc, run_zero hi hz, newVar, newRow]
    · intro v hv
      simp only [M.new, and_self, if_true, Option.some.injEq] at hv
      subst hv
      refine ⟨m.w.heap.size, z.cells, r.t, rfl, heap_new _ _, by rw [← hzz]; simp, fun j p u hp hu => ?_⟩
      rw [← hzz, List.getElem?_map] at hp
      obtain ⟨u', hu', rfl⟩ := Option.map_eq_some_iff.1 hp
      rw [Array.getElem?_toList, hu] at hu'
      cases hu'
      exact rp_zero _ _
  | box e x =>
    rw [ho] at h
    obtain ⟨p, hp, h⟩ := evK_ev h
    obtain ⟨cs, h, hcell, hcs⟩ := cells_rel h
    unfold newK at h
    rw [lenK_spec, snocK_spec] at h
    have mx : x ∈ o.op.operands.toList := by simp [ho, Op.operands]
    refine ⟨_, _, h, List.prefix_append _ _, step_new fun m a _ he => ⟨.pointer (some ⟨m.w.heap.size, 0, none⟩), (a.eval x).cells, e, .pointer (some ⟨m.w.heap.size, 0, none⟩), ?_, rfl, fun hf => ⟨?_, .ptr _ _ _ _ (by simp [M.new])⟩⟩⟩
    · simp [execOp, ho, Instr.box, newVar, newRow]
    · obtain ⟨hsz, hrel⟩ := hcs m _ (ev_rel he mx hp)
      intro v hv
      simp only [M.new, and_self, if_true, Option.some.injEq] at hv
      subst hv
      exact ⟨m.w.heap.size, _, e, rfl, heap_new _ _, hsz, fun j p u hp hu => (hrel j p u hp hu).keep (grow_new _ _ _ _ hf).keep⟩
  | build t parts =>
    rw [ho] at h
    obtain ⟨r, hr, ht_, h_⟩ := lookK_spec h
    clear h
    subst ht_
    have h := h_
    clear h_
    simp only [ifK] at h
    split at h
    case h_2 => exact h.elim
    rename_i hagg
    obtain ⟨pl, hpl, hrun⟩ := build_run hC hr hagg
    obtain ⟨cs', hk, hh⟩ := buildK_spec (xs := o.op.operands.toList) hpl parts.toList r.zero _ h (fun x hx => by rw [ho]; simp only [Op.operands, List.toList_toArray]; exact List.mem_map_of_mem hx)
    refine ⟨_, top, hk, List.prefix_refl _, step_val fun m a hi he => ?_⟩
    obtain ⟨zero, hz, hfill⟩ := hrun m.w (parts.map fun x => (x.1, a.eval x.2))
    obtain ⟨arr, h1, h2, h3⟩ := hh m a zero he (by rw [← hz]; simp) (fun j p u hp hu => by
      rw [← hz, List.getElem?_map] at hp
      obtain ⟨u', hu', rfl⟩ := Option.map_eq_some_iff.1 hp
      rw [Array.getElem?_toList, hu] at hu'
      cases hu'
      exact rp_zero _ _)
    refine ⟨.agg arr, ex_run (s := Instr.build r.t (parts.map fun x => (x.1, a.eval x.2))) (by simp [execOp, ho]) (hfill arr (by rw [Array.toList_map]; exact h1)), .agg _ _ h2.symm h3⟩
  | buildSlice t n parts =>
    rw [ho] at h
    obtain ⟨r, hr, ht_, h_⟩ := lookK_spec h
    clear h
    subst ht_
    have h := h_
    clear h_
    split at h
    case h_2 => exact h.elim
    rename_i e hty0
    obtain ⟨r', hr', ht_, h_⟩ := lookK_spec h
    clear h
    subst ht_
    have h := h_
    clear h_
    simp only [ifK] at h
    split at h
    case h_2 => exact h.elim
    rename_i hpos
    have hpos : 0 < r'.size := by simpa [Nat.blt_eq] using hpos
    split at h
    case h_2 => exact h.elim
    rename_i hmax
    have hmax : n * r'.size ≤ 16777216 := Nat.le_of_ble_eq_true hmax
    obtain ⟨es, h, hel, hes, hfill⟩ := elems_fill (xs := o.op.operands.toList) parts.toList 0 _ h (fun x hx => by rw [ho]; simp only [Op.operands, List.toList_toArray]; exact List.mem_map_of_mem hx)
    rw [lenK_spec] at h
    split at h
    case h_2 => exact h.elim
    rename_i hn
    have hn := Nat.eq_of_beq_eq_true hn
    obtain ⟨i, z, d, hi, hs, hb, hz, hzz, hd, hty⟩ := row_info hC hr
    obtain ⟨i', z', d', hi', hs', hb', hz', hzz', hd', hty'⟩ := row_info hC hr'
    rw [hty0] at hty
    obtain ⟨e, rfl⟩ : ∃ e, d = .slice e := by cases d <;> simp [tyOf] at hty <;> exact ⟨_, rfl⟩
    simp only [tyOf, Ty.slice.injEq] at hty
    subst hty
    have hrun0 : ∀ (m : M) (a : Act), EvR m a tm o.op.operands.toList → ∃ arr : Array Value, arr.size = n * r'.size ∧ (execOp a.eval o).run C.P m.w = .ok (.value (.slice (some ⟨m.w.heap.size, 0, none⟩) n n)) (m.w.alloc (.cells arr r'.t (0, 0))) ∧
        ∀ (i : Nat) x (j : Nat) y u, es[i]? = some x → x[j]? = some y → arr[(0 + i) * r'.size + j]? = some u → RD m.w m.ok y u := by
      intro m a he
      obtain ⟨zc, hzc⟩ : ∃ zc : Array Value, zc = if n * r'.size = 0 then #[] else z'.cells := ⟨_, rfl⟩
      obtain ⟨arr, h1, h2, _, h4⟩ := hfill m a ((Array.range (n * r'.size)).map (zc[· % zc.size]!)) he (by simp [← hel, hn])
      have hsz : arr.size = n * r'.size := by rw [h2]; simp
      have hrun : (execOp a.eval o).run C.P m.w = .ok (.value (.slice (some ⟨m.w.heap.size, 0, none⟩) n n)) (m.w.alloc (.cells arr r'.t (0, 0))) := by
        refine ex_run (s := Instr.buildSlice r.t n (parts.map fun x => (x.1, a.eval x.2))) (by simp [execOp, ho]) ?_
        simp only [Instr.buildSlice, Sem.run_bind, run_under hd, Result.andThen_ok, run_size hi', hs']
        rw [if_neg (by omega)]
        by_cases h0 : n * r'.size = 0
        · rw [if_pos h0] at hzc
          rw [if_pos h0, ← hzc]
          simp only [Sem.run_bind, Sem.run_pure, Result.andThen_ok, Array.toList_map]
          rw [h1]
          simp [newRow]
        · rw [if_neg h0] at hzc
          rw [if_neg h0]
          simp only [Sem.run_bind, run_zero hi' hz', Sem.run_pure, Result.andThen_ok, Array.toList_map]
          rw [← hzc, h1]
          simp [newRow]
      exact ⟨arr, hsz, hrun, h4⟩
    cases n with
    | zero =>
      change newK top (.row r'.t r'.size es) (fun i top' => K (.row 0 i 0) top') at h
      unfold newK at h
      rw [lenK_spec, snocK_spec] at h
      refine ⟨_, _, h, List.prefix_append _ _, fun m a hinv he hfree next Q hnext => ?_⟩
      obtain ⟨arr, hsz, hrun, h4⟩ := hrun0 m a he
      have hfr : m.ρ 0 top.length = none := hfree _ (Nat.le_refl _) (by simp)
      unfold Oper.wp
      rw [hrun]
      have hg := grow_new m (.cells arr r'.t (0, 0)) top.length (.slice (some ⟨m.w.heap.size, 0, none⟩) 0 0) hfr
      refine hnext _ (m.new (.cells arr r'.t (0, 0)) top.length (.slice (some ⟨m.w.heap.size, 0, none⟩) 0 0)) hg (fun l j hj => ?_) (fun j u' k h1 h2 hu' hk => ?_) (inv_new hinv hfr rfl ?_) (.row _ _ _ 0 0 _ (by simp [M.new]) (Nat.le_refl _) (Nat.le_refl _))
      · simp only [M.new]
        rw [if_neg]
        rintro ⟨rfl, rfl⟩
        exact hj ⟨rfl, Nat.le_refl _, by simp⟩
      · obtain rfl : j = top.length := by simp at h2; omega
        simp only [M.new, and_self, if_true, Option.some.injEq] at hu'
        subst hu'
        cases hk
        exact Nat.le_refl _
      · intro v hv
        simp only [M.new, and_self, if_true, Option.some.injEq] at hv
        subst hv
        refine ⟨hpos, hes, arr.toList, ?_, fun i x j y u hx hy hu => ?_⟩
        · rw [hn]
          exact World.ownsRow_lit m.w arr 0 (Nat.zero_le _) (by unfold maxLen; omega) hsz
        · exact RD.keep hg.keep (h4 i x j y u hx hy (by rw [Nat.zero_add]; simpa using hu))
    | succ n =>
      change K (.d (.sl es)) top at h
      refine ⟨_, _, h, List.prefix_refl _, fun m a hinv he hfree next Q hnext => ?_⟩
      obtain ⟨arr, hsz, hrun, h4⟩ := hrun0 m a he
      unfold Oper.wp
      rw [hrun]
      have hsz' : (m.w.alloc (.cells arr r'.t (0, 0))).heap.size = m.w.heap.size + 1 := by simp
      have hg : Grow m ⟨m.w.alloc (.cells arr r'.t (0, 0)), m.ρ, m.U⟩ := ⟨rfl, rfl, rfl, by rw [hsz']; omega, fun k hk => heap_old _ _ _ hk, fun _ _ _ h => h, fun _ _ => Iff.rfl⟩
      refine hnext _ _ hg (fun _ _ _ => rfl) (fun j u k h1 h2 => by omega) ⟨fun l j b hb => (hinv.blk l j b hb).keep hg.keep rfl (fun v k hl hv hk => heap_old _ _ _ (hinv.lt k (hinv.own l j b v k hb hl hv hk))), hinv.inj, hinv.own, fun k hk => Nat.lt_of_lt_of_le (hinv.lt k hk) hg.size⟩ ?_
      have hn1 : es.length = n + 1 := hn
      have cell : ∀ (i : Nat) x (j : Nat) y, es[i]? = some x → x[j]? = some y → ∃ u, arr[i * r'.size + j]? = some u := fun i x j y hx hy => by
        have h1 : i < n + 1 := by rw [← hn1]; exact (List.getElem?_eq_some_iff.1 hx).1
        have h2 : j < r'.size := by rw [← hes x (List.mem_of_getElem? hx)]; exact (List.getElem?_eq_some_iff.1 hy).1
        have h3 : i * r'.size + r'.size ≤ (n + 1) * r'.size := by rw [← Nat.succ_mul]; exact Nat.mul_le_mul_right _ h1
        exact ⟨_, Array.getElem?_eq_getElem (by omega)⟩
      refine .d _ _ (.sl r'.size _ _ _ _ ⟨m.w.heap.size, 0, none⟩ (fun k => arr.getD k undef) hn1 (Nat.le_refl _) (by have : n + 1 ≤ (n + 1) * r'.size := Nat.le_mul_of_pos_right _ hpos; omega) (fun _ => rfl) hes (fun i x j y hx hy => ?_) (fun i x j y hx hy => ?_))
      · obtain ⟨u, hu⟩ := cell i x j y hx hy
        refine ⟨⟨?_, fun hU => ?_⟩, ?_⟩
        · show m.w.heap.size < (m.w.alloc (.cells arr r'.t (0, 0))).heap.size; omega
        · have := hinv.lt _ hU; simp at this
        · rw [add_none, Nat.zero_add]
          have hh := heap_new m.w (.cells arr r'.t (0, 0))
          show (m.w.alloc (.cells arr r'.t (0, 0))).cell? ⟨m.w.heap.size, i * r'.size + j, none⟩ = _
          simp only [World.cell?, hh, hu]
          simp [hu]
      · obtain ⟨u, hu⟩ := cell i x j y hx hy
        have := (h4 i x j y u hx hy (by rw [Nat.zero_add]; exact hu)).keep hg.keep
        simpa [hu] using this
  | load t x =>
    rw [ho] at h
    obtain ⟨p, hp, h⟩ := evK_ev h
    obtain ⟨q, hq, hh⟩ := loadK_spec hC h
    refine ⟨q, top, hq, List.prefix_refl _, step_val fun m a hi he => ?_⟩
    obtain ⟨u, hu, hr⟩ := hh m _ hi (ev_rel he (by simp [ho, Op.operands]) hp)
    exact ⟨u, ex_run (by simp [execOp, ho]) hu, hr⟩
  | fieldAddr t x f =>
    rw [ho] at h
    obtain ⟨p, hp, h⟩ := evK_ev h
    obtain ⟨q, hq, hh⟩ := fieldK_spec hC h
    refine ⟨q, top, hq, List.prefix_refl _, step_val fun m a hi he => ?_⟩
    obtain ⟨u, hu, hr⟩ := hh m _ (ev_rel he (by simp [ho, Op.operands]) hp)
    exact ⟨u, ex_run (by simp [execOp, ho]) (hu _), hr⟩
  | indexAddr t x ix =>
    rw [ho] at h
    obtain ⟨p, hp, h⟩ := evK_ev h
    obtain ⟨p2, hp2, h⟩ := evK_ev h
    split at h
    case h_2 => exact h.elim
    rename_i k n
    obtain ⟨q, hq, hh⟩ := idxK_spec hC h
    refine ⟨q, top, hq, List.prefix_refl _, step_val fun m a hi he => ?_⟩
    have h2 := ev_rel he (x := ix) (by simp [ho, Op.operands]) hp2
    generalize hv : a.eval ix = v at h2
    cases h2 with
    | d _ _ h2 =>
      cases h2
      obtain ⟨u, hu, hr⟩ := hh m _ k hi (ev_rel he (by simp [ho, Op.operands]) hp)
      exact ⟨u, ex_run (by simp [execOp, ho, hv]) hu, hr⟩
  | binOp op t x y ty =>
    rw [ho] at h
    obtain ⟨p, hp, h⟩ := evK_ev h
    obtain ⟨p2, hp2, h⟩ := evK_ev h
    obtain ⟨q, hq, hh⟩ := binK_spec hC h
    refine ⟨q, top, hq, List.prefix_refl _, step_val fun m a hi he => ?_⟩
    obtain ⟨u, hu, hr⟩ := hh m _ _ x y (ev_rel he (by simp [ho, Op.operands]) hp) (ev_rel he (by simp [ho, Op.operands]) hp2)
    exact ⟨u, ex_run (by simp only [execOp, ho]) hu, hr⟩
  | unOp op t x =>
    rw [ho] at h
    cases op with
    | not =>
      obtain ⟨p, hp, h⟩ := evK_ev h
      have mx : x ∈ o.op.operands.toList := by simp [ho, Op.operands]
      have ex : ∀ (a : Act) (w : World) (b : Bool), a.eval x = .bool b → (execOp a.eval o).run C.P w = .ok (.value (.bool (!b))) w := fun a w b hb => by
        simp [execOp, ho, Op.unary, hb]
      split at h
      · refine ⟨_, top, h, List.prefix_refl _, step_val fun m a hi he => ?_⟩
        have := ev_rel he mx hp
        generalize hv : a.eval x = v at this
        cases this
        exact ⟨_, ex a _ _ hv, .ub _⟩
      · refine ⟨_, top, h, List.prefix_refl _, step_val fun m a hi he => ?_⟩
        have := ev_rel he mx hp
        generalize hv : a.eval x = v at this
        cases this
        exact ⟨_, ex a _ _ hv, .kb _⟩
      · refine ⟨_, top, h, List.prefix_refl _, step_val fun m a hi he => ?_⟩
        have := ev_rel he mx hp
        generalize hv : a.eval x = v at this
        cases this with
        | d _ _ hb => cases hb; exact ⟨_, ex a _ _ hv, rd_bool _⟩
      · exact h.elim
    | _ => exact h.elim
  | slice t x lo hi mx =>
    rw [ho] at h
    cases mx with
    | some _ => exact h.elim
    | none =>
      obtain ⟨p, hp, h⟩ := evK_ev h
      obtain ⟨l, h, hl0, hl1⟩ := optEvK_spec h
      obtain ⟨hh, h, hh0, hh1⟩ := optEvK_spec h
      obtain ⟨r, hr, ht_, h_⟩ := lookK_spec h
      clear h
      subst ht_
      have h := h_
      clear h_
      split at h
      case h_2 => exact h.elim
      rename_i e hty0
      obtain ⟨r', hr', ht_, h_⟩ := lookK_spec h
      clear h
      subst ht_
      have h := h_
      clear h_
      obtain ⟨q, hq, hq2⟩ := sliceK_spec hC hr hr' hty0 h
      refine ⟨q, top, hq, List.prefix_refl _, step_val fun m a hinv he => ?_⟩
      have memx : x ∈ o.op.operands.toList := by rw [ho]; simp [Op.operands]
      have meml : ∀ y, lo = some y → y ∈ o.op.operands.toList := fun y hy => by rw [ho, hy]; simp [Op.operands]
      have memh : ∀ y, hi = some y → y ∈ o.op.operands.toList := fun y hy => by rw [ho, hy]; simp [Op.operands]
      obtain ⟨u, hu, hr3⟩ := hq2 m (a.eval x) (lo.map a.eval) (hi.map a.eval) ⟨top, H, hinv⟩ (ev_rel he memx hp)
        (fun p' hp' => by
          cases lo with
          | none => rw [hl0 rfl] at hp'; cases hp'
          | some y => obtain ⟨p2, h1, h2⟩ := hl1 y rfl; rw [h1] at hp'; cases hp'; exact ⟨_, rfl, ev_rel he (meml y rfl) h2⟩)
        (fun hn => by
          cases lo with
          | none => rfl
          | some y => obtain ⟨p2, h1, h2⟩ := hl1 y rfl; rw [h1] at hn; cases hn)
        (fun p' hp' => by
          cases hi with
          | none => rw [hh0 rfl] at hp'; cases hp'
          | some y => obtain ⟨p2, h1, h2⟩ := hh1 y rfl; rw [h1] at hp'; cases hp'; exact ⟨_, rfl, ev_rel he (memh y rfl) h2⟩)
        (fun hn => by
          cases hi with
          | none => rfl
          | some y => obtain ⟨p2, h1, h2⟩ := hh1 y rfl; rw [h1] at hn; cases hn)
      exact ⟨u, ex_run (by simp [execOp, ho]) hu, hr3⟩
  | makeFunc fn fs cs =>
    rw [ho] at h
    obtain ⟨ps, h, hl, hr⟩ := evsK_spec (ys := o.op.operands.toList) h (fun x hx => by rw [ho]; simp only [Op.operands, Array.toList_append]; exact List.mem_append_left _ hx)
    obtain ⟨qs, h, hl2, hr2⟩ := evsK_spec (ys := o.op.operands.toList) h (fun x hx => by rw [ho]; simp only [Op.operands, Array.toList_append]; exact List.mem_append_right _ hx)
    refine ⟨_, top, h, List.prefix_refl _, step_val fun m a hi he => ⟨.func fn (fs.map a.eval) (cs.map a.eval), by simp [execOp, ho, Instr.makeFunc], .func _ _ _ _ _ (by simp [hl]) (by simp [hl2]) (fun j p v hp hv => ?_) (fun j p v hp hv => ?_)⟩⟩
    · rw [Array.getElem?_map] at hv
      obtain ⟨x, hx, rfl⟩ := Option.map_eq_some_iff.1 hv
      exact hr m a he j p x hp (by simpa using hx)
    · rw [Array.getElem?_map] at hv
      obtain ⟨x, hx, rfl⟩ := Option.map_eq_some_iff.1 hv
      exact hr2 m a he j p x hp (by simpa using hx)
  | index t x ix =>
    rw [ho] at h
    obtain ⟨p, hp, h⟩ := evK_ev h
    obtain ⟨p2, hp2, h⟩ := evK_ev h
    split at h
    case h_2 => exact h.elim
    rename_i cs k n h__
    clear h__
    obtain ⟨r, hr, ht_, h_⟩ := lookK_spec h
    clear h
    subst ht_
    obtain ⟨ii, z, d, hii, hs, hb, hz, hzz, hd, hty⟩ := row_info hC hr
    split at h_
    case h_2 => exact h_.elim
    rename_i len e hty0
    obtain ⟨h0, h1, h_2⟩ := h_
    obtain ⟨r', hr', ht_, h⟩ := lookK_spec h_2
    clear h_2
    subst ht_
    obtain ⟨i2, z2, d2, hi2, hs2, hb2, hz2, hzz2, hd2, hty2⟩ := row_info hC hr'
    rw [hty0] at hty
    obtain ⟨rfl⟩ : d = .array len r'.t := by cases d <;> simp [tyOf] at hty <;> simp [hty]
    obtain ⟨hsub, h⟩ := subK_spec.1 h
    obtain ⟨q, hq, hone, hrel⟩ := wholeK_spec h
    refine ⟨q, top, hq, List.prefix_refl _, step_val fun m a hinv he => ?_⟩
    have r1 := ev_rel he (x := x) (by simp [ho, Op.operands]) hp
    have r2 := ev_rel he (x := ix) (by simp [ho, Op.operands]) hp2
    generalize hv : a.eval x = v at r1
    generalize hv2 : a.eval ix = v2 at r2
    cases r1 with
    | agg _ vs e1 e2 =>
    cases r2 with
    | d _ _ hx =>
    cases hx
    have hlen : ((vs.toList.drop (n.toNat * r'.size)).take r'.size).length = ((cs.drop (n.toNat * r'.size)).take r'.size).length := by simp [e1]
    have hrp := hrel m ((vs.toList.drop (n.toNat * r'.size)).take r'.size) hlen (fun j p v hp hv => by
      have hj : j < r'.size := by
        rcases Nat.lt_or_ge j r'.size with h | h
        · exact h
        · rw [List.getElem?_eq_none (by rw [List.length_take]; omega)] at hp; cases hp
      rw [List.getElem?_take_of_lt hj, List.getElem?_drop] at hp hv
      exact e2 _ p v hp (by simpa using hv))
    refine ⟨_, ex_run (s := Instr.index r.t (.agg vs) (.int k n)) (by simp [execOp, ho, hv, hv2]) ?_, hrp⟩
    simp only [Instr.index, asIntOf, Sem.run_bind, Sem.run_pure, Result.andThen_ok, run_under hd]
    rw [if_pos ⟨h0, h1⟩]
    simp only [Sem.run_bind, run_size hi2, hs2, Result.andThen_ok, part, run_agg hd2, hty2]
    cases ha : r'.ty.isAgg with
    | true =>
      simp only [if_true, Sem.run_bind, run_size hi2, hs2, Result.andThen_ok, Sem.run_pure]
      congr 2
      apply Array.ext'
      simp [List.extract_eq_take_drop]
    | false =>
      have h1' := hone ha
      have hcl : n.toNat * r'.size + r'.size ≤ cs.length := hsub
      have hr1 : r'.size = 1 := by rw [List.length_take, List.length_drop] at h1'; omega
      have hlt : n.toNat * r'.size < vs.size := by omega
      simp only [Bool.false_eq_true, if_false, Array.getElem?_eq_getElem hlt, Sem.run_pure]
      congr 1
      have hg : ((vs.toList.drop (n.toNat * r'.size)).take r'.size)[0]? = some vs[n.toNat * r'.size] := by
        rw [List.getElem?_take_of_lt (by omega), List.getElem?_drop, Nat.add_zero]
        simp [hlt]
      rw [List.getD, hg]; rfl
  | makeSlice t l c =>
    rw [ho] at h
    obtain ⟨p, hp, h⟩ := evK_ev h
    obtain ⟨p2, hp2, h⟩ := evK_ev h
    split at h
    case h_2 => exact h.elim
    rename_i k n k' n' h__
    clear h__
    obtain ⟨r, hr, ht_, h_⟩ := lookK_spec h
    clear h
    subst ht_
    obtain ⟨ii, z, d, hii, hs, hb, hz, hzz, hd, hty⟩ := row_info hC hr
    split at h_
    case h_2 => exact h_.elim
    rename_i e hty0
    obtain ⟨r', hr', ht_, h⟩ := lookK_spec h_
    clear h_
    subst ht_
    obtain ⟨i2, z2, d2, hi2, hs2, hb2, hz2, hzz2, hd2, hty2⟩ := row_info hC hr'
    rw [hty0] at hty
    obtain ⟨e, rfl⟩ : ∃ e, d = .slice e := by cases d <;> simp [tyOf] at hty <;> exact ⟨_, rfl⟩
    simp only [tyOf, Ty.slice.injEq] at hty
    subst hty
    simp only [ifK] at h
    split at h
    case h_2 => exact h.elim
    rename_i hpos
    have hpos : 0 < r'.size := by simpa [Nat.blt_eq] using hpos
    obtain ⟨zs, h, hzl, hzr⟩ := dvsK_spec h
    rw [lenK_spec] at h
    split at h
    case h_2 => exact h.elim
    rename_i hzs
    have hzs := Nat.eq_of_beq_eq_true hzs
    obtain ⟨rfl, h0, hby, h63, h⟩ := h
    unfold newK at h
    rw [lenK_spec, snocK_spec] at h
    have hzc : z2.cells.size = r'.size := by rw [← hzs, hzl, ← hzz2]; simp
    refine ⟨_, _, h, List.prefix_append _ _, step_new fun m a hinv he => ?_⟩
    have r1 := ev_rel he (x := l) (by simp [ho, Op.operands]) hp
    have r2 := ev_rel he (x := c) (by simp [ho, Op.operands]) hp2
    generalize hv : a.eval l = v at r1
    generalize hv2 : a.eval c = v2 at r2
    cases r1 with
    | d _ _ hx =>
    cases hx
    cases r2 with
    | d _ _ hx =>
    cases hx
    have hrun := run_make (P := C.P) (w := m.w) r.t r'.t i2 z2 hd hi2 hz2 k k' n n h0 (Int.le_refl _) (by rw [hb2]; exact hby) h63
    refine ⟨_, _, _, .slice (some ⟨m.w.heap.size, 0, none⟩) n.toNat n.toNat, ex_run (s := Instr.makeSlice r.t (.int k n) (.int k' n)) (by simp [execOp, ho, hv, hv2]) hrun, rfl, fun hfree => ⟨fun u hu => ?_, .row _ _ _ n.toNat n.toNat _ (by simp [M.new]) (Nat.le_refl _) (Nat.le_refl _)⟩⟩
    simp only [M.new, and_self, if_true, Option.some.injEq] at hu
    subst hu
    refine ⟨hpos, fun x hx => by rw [(List.mem_replicate.1 hx).2, hzs], (madeCells z2.cells (n.toNat * i2.size)).toList, ?_, fun i x j y u hx hy hu => ?_⟩
    · rw [List.length_replicate]
      exact World.ownsRow_lit m.w _ n.toNat (Nat.zero_le _) (by unfold maxLen; omega) (by rw [size_madeCells, hs2])
    · have hx' : x = zs := by have := List.mem_of_getElem? hx; exact (List.mem_replicate.1 this).2
      subst hx'
      have hj : j < r'.size := by rw [← hzs]; exact (List.getElem?_eq_some_iff.1 hy).1
      have hlt : i * r'.size + j < n.toNat * i2.size := by have := (List.getElem?_eq_some_iff.1 hu).1; simpa [size_madeCells] using this
      have huz : u = (z2.cells.toList.getD j undef) := by
        simp [madeCells, hlt, hzc] at hu
        rw [← hu]
        rw [Nat.mod_eq_of_lt hj, getElem!_pos z2.cells j (by omega)]
        simp [show j < z2.cells.size by omega]
      rw [huz]
      refine RD.keep (grow_new m _ _ _ hfree).keep (hzr m (fun j => z2.cells.toList.getD j undef) (fun j p hp => ?_) j y hy)
      rw [← hzz2, List.getElem?_map] at hp
      obtain ⟨v, hv, rfl⟩ := Option.map_eq_some_iff.1 hp
      have : z2.cells.toList.getD j undef = v := by rw [List.getD, hv]; rfl
      rw [this]
      exact rp_zero m v
  | extract x i =>
    rw [ho] at h
    obtain ⟨p, hp, h⟩ := evK_ev h
    split at h
    case h_2 => exact h.elim
    rename_i cs
    obtain ⟨q, hq, h⟩ := getK_spec.1 h
    refine ⟨q, top, h, List.prefix_refl _, step_val fun m a hi he => ?_⟩
    have := ev_rel he (x := x) (by simp [ho, Op.operands]) hp
    generalize hv : a.eval x = v at this
    cases this with
    | tuple _ vs h1 h2 =>
      have hlt : i < vs.size := by rw [← h1]; exact (List.getElem?_eq_some_iff.1 hq).1
      have hvi : vs[i]? = some vs[i] := Array.getElem?_eq_getElem hlt
      exact ⟨vs[i], by simp [execOp, ho, hv, Instr.extract, hvi], h2 i q _ hq hvi⟩
  | convert s d x =>
    rw [ho] at h
    obtain ⟨p, hp, h⟩ := evK_ev h
    exact conv_step hC ho hp h
  | call c => exact absurd ho (hcall c)
  | _ => rw [ho] at h; exact h.elim
end Go.Proofs.Ve
