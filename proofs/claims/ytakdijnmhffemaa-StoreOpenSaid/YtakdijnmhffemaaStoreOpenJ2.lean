/- StoreOpen, part 2 of 6. The engine and the contracts that the proof needs. -/
import Derived.Test.YtakdijnmhffemaaStoreOpenJ1
/- What the value machine says of an operation is so: put together. -/
set_option linter.all false
namespace Go.Proofs.Ve
open Go

theorem elems_fill {tm : List PV} {xs : List Operand} {size : Nat} : ∀ (parts : List (Nat × Operand)) (n0 : Nat) (K : List (List DV) → Prop), elemsK tm size n0 parts K → (∀ x ∈ parts, x.2 ∈ xs) →
    ∃ es, K es ∧ es.length = parts.length ∧ (∀ x ∈ es, x.length = size) ∧ ∀ (m : M) (a : Act) (arr : Array Value), EvR m a tm xs → arr.size = (n0 + parts.length) * size →
      ∃ arr', Instr.fill (fun i => some (i * size, size)) arr (parts.map fun x => (x.1, a.eval x.2)) = some arr' ∧ arr'.size = arr.size ∧ (∀ k, k < n0 * size → arr'[k]? = arr[k]?) ∧
        ∀ (i : Nat) x (j : Nat) y u, es[i]? = some x → x[j]? = some y → arr'[(n0 + i) * size + j]? = some u → RD m.w m.ok y u
  | [], n0, K, h, _ => ⟨[], h, rfl, by simp, fun m a arr _ hs => ⟨arr, rfl, rfl, fun k _ => rfl, fun i x j y u hx => by simp at hx⟩⟩
  | (i, x) :: rest, n0, K, h, hsub => by
    simp only [elemsK, ifK] at h
    split at h
    case h_2 => exact h.elim
    rename_i hi
    obtain rfl := Nat.eq_of_beq_eq_true hi
    obtain ⟨p, hp, h⟩ := evK_ev h
    obtain ⟨ys, h, hcell, hys⟩ := cells_rel h
    rw [lenK_spec] at h
    split at h
    case h_2 => exact h.elim
    rename_i hb
    have hb := Nat.eq_of_beq_eq_true hb
    obtain ⟨ds, h, hdl, hds⟩ := dvsK_spec h
    obtain ⟨es, hk, hl, hes, hh⟩ := elems_fill rest (i + 1) _ h (fun x hx => hsub x (List.mem_cons_of_mem _ hx))
    refine ⟨ds :: es, hk, by simp [hl], fun z hz => by cases hz with | head => omega | tail _ hz => exact hes z hz, fun m a arr he hs => ?_⟩
    obtain ⟨hsz, hcs⟩ := hys m (a.eval x) (ev_rel he (hsub (i, x) List.mem_cons_self) hp)
    have hle : i * size + size ≤ arr.size := by
      rw [hs, ← Nat.succ_mul]
      exact Nat.mul_le_mul_right _ (by simp)
    obtain ⟨arr2, hf, hs2, hg⟩ := fill_cons (place := fun i => some (i * size, size)) (cells := arr) (i := i) (v := a.eval x) (rest := rest.map fun x => (x.1, a.eval x.2)) rfl (by rw [hsz, hb]) hle
    obtain ⟨arr', h1, h2, h3, h4⟩ := hh m a arr2 he (by rw [hs2, hs]; simp; congr 1; omega)
    refine ⟨arr', by rw [List.map_cons]; exact hf.trans h1, by rw [h2, hs2], fun k hk => ?_, fun e z j y u hz hy hu => ?_⟩
    · rw [h3 k (by rw [Nat.succ_mul]; omega), hg k, if_neg (by omega)]
    · cases e with
      | zero =>
        simp at hz
        subst hz
        have hjl : j < size := by have := (List.getElem?_eq_some_iff.1 hy).1; omega
        rw [Nat.add_zero, h3 _ (by rw [Nat.succ_mul]; omega), hg, if_pos (by omega), show i * size + j - i * size = j by omega] at hu
        refine (show u = ((fun j => ((a.eval x).cells[j]?).getD undef) j) from by simp [hu]) ▸ hds m (fun j => ((a.eval x).cells[j]?).getD undef) (fun j q hq => ?_) j y hy
        have hjl2 : j < ys.length := (List.getElem?_eq_some_iff.1 hq).1
        obtain ⟨c, hc⟩ : ∃ c, (a.eval x).cells[j]? = some c := ⟨_, Array.getElem?_eq_getElem (by omega)⟩
        rw [hc]
        exact hcs j q c hq hc
      | succ e =>
        refine h4 e z j y u (by simpa using hz) hy ?_
        rw [show i + 1 + e = i + (e + 1) by omega]
        exact hu

theorem ex_run {C : Cx} {o : Oper} {a : Act} {w : World} {s : Sem Value} {v : Value} {w' : World} (h : execOp a.eval o = (do pure (.value (← s)))) (hr : s.run C.P w = .ok v w') : (execOp a.eval o).run C.P w = .ok (.value v) w' := by
  rw [h]; simp [hr]

theorem conv_step {C : Cx} (hC : C.Ok) {H : List (List Blk)} {o : Oper} {s d : Nat} {x : Operand} (ho : o.op = .convert s d x) {tm : List PV} {top : List Blk} {p : PV} (hp : ev? tm x = some p) {K : PV → List Blk → Prop}
    (h : convK C s d p fun q => K q top) : ∃ pv top', K pv top' ∧ Ext top top' ∧ OpStep C H o tm top pv top' := by
  have mx : x ∈ o.op.operands.toList := by simp [ho, Op.operands]
  obtain ⟨rs, hrs, ht_, h_⟩ := lookK_spec h
  clear h
  subst ht_
  obtain ⟨rd, hrd, ht_, h⟩ := lookK_spec h_
  clear h_
  subst ht_
  obtain ⟨i, z, ds, hi, hs, hb, hz, hzz, hd, hty⟩ := row_info hC hrs
  obtain ⟨i', z', dd, hi', hs', hb', hz', hzz', hd', hty'⟩ := row_info hC hrd
  have ex : ∀ (a : Act), execOp a.eval o = (do pure (.value (← convert rs.t rd.t (a.eval x)))) := fun a => by simp [execOp, ho]
  split at h
  · rename_i k n
    cases hT : rd.ty <;> rw [hT] at h <;> try exact h.elim
    rename_i k'
    cases hS : rs.ty <;> rw [hS] at h <;> try exact h.elim
    rename_i k0
    rw [hT] at hty'
    rw [hS] at hty
    obtain rfl : dd = .int k' := by cases dd <;> simp [tyOf] at hty' <;> rw [hty']
    obtain rfl : ds = .int k0 := by cases ds <;> simp [tyOf] at hty <;> rw [hty]
    refine ⟨_, top, h _ rfl, Ext.refl _, step_val fun m a hinv he => ?_⟩
    have := ev_rel he mx hp
    generalize hv : a.eval x = v at this
    cases this with
    | d _ _ hv2 =>
      cases hv2
      refine ⟨_, ex_run (ex a) (by rw [hv]; simp only [convert, Sem.run_bind, run_under hd, run_under hd', Result.andThen_ok]; rfl), rd_int _ _⟩
  · rename_i str
    cases hS : rs.ty <;> rw [hS] at h <;> try exact h.elim
    cases hT : rd.ty <;> rw [hT] at h <;> try exact h.elim
    rename_i e
    obtain ⟨re, hre, ht_, h_⟩ := lookK_spec h
    clear h
    subst ht_
    obtain ⟨i2, z2, de, hi2, hs2, hb2, hz2, hzz2, hde, htye⟩ := row_info hC hre
    split at h_
    case h_2 => exact h_.elim
    rename_i hE
    obtain ⟨hsz1, hsize, hk⟩ := h_
    rw [hS] at hty
    rw [hT] at hty'
    rw [hE] at htye
    obtain rfl : ds = .string := by cases ds <;> simp [tyOf] at hty <;> rfl
    obtain rfl : dd = .slice re.t := by cases dd <;> simp [tyOf] at hty' <;> rw [hty']
    obtain rfl : de = .int .u8 := by cases de <;> simp [tyOf] at htye <;> rw [htye]
    refine ⟨_, top, hk, Ext.refl _, fun m a hinv he hfree next Q hnext => ?_⟩
    have := ev_rel he mx hp
    generalize hv : a.eval x = v at this
    cases this with
    | d _ _ hv2 =>
      cases hv2
      have hrun := Lib.run_convert_string_bytes (P := C.P) m.w rs.t rd.t re.t str hd hd' hde
      unfold Oper.wp
      rw [ex_run (ex a) (by rw [hv]; exact hrun)]
      have hsz := Lib.bytesWorld_size m.w re.t str
      have hg : Grow m ⟨Lib.bytesWorld m.w re.t str, m.ρ, m.U⟩ :=
        ⟨rfl, rfl, rfl, by show _ ≤ (Lib.bytesWorld m.w re.t str).heap.size; omega, fun k hk => Lib.bytesWorld_at_old _ _ _ _ hk, fun _ _ _ h => h, fun _ _ => Iff.rfl⟩
      refine hnext _ _ hg (fun _ _ _ => rfl) (fun j b u k h1 h2 => by have := (List.getElem?_eq_some_iff.1 h2).1; omega) (hinv.of_grow hg rfl rfl) ?_
      have hdl : str.data.toList.length = str.size := by rw [Array.length_toList]; rfl
      refine .d _ _ (.sl 1 _ _ _ _ ⟨m.w.heap.size, 0, none⟩ (fun k => .int .u8 (str.data.toList.getD k 0).toNat) (by simp [hdl]) (grownCap_ge _ _ _ _) (by omega) (fun _ => rfl) (fun y hy => by simp at hy; obtain ⟨b, _, rfl⟩ := hy; rfl) (fun k y j w hy hw => ?_) (fun k y j w hy hw => ?_))
      · rw [List.getElem?_map] at hy
        obtain ⟨b, hb, rfl⟩ := Option.map_eq_some_iff.1 hy
        have hkl : k < str.size := by rw [← hdl]; exact (List.getElem?_eq_some_iff.1 hb).1
        cases j with
        | succ j => simp at hw
        | zero =>
          refine ⟨⟨?_, fun hu => ?_⟩, ?_⟩
          · show m.w.heap.size < (Lib.bytesWorld m.w re.t str).heap.size; omega
          · have := hinv.lt _ hu; simp at this
          · rw [add_none, Nat.zero_add, Nat.mul_one, Nat.add_zero]; exact Lib.bytesWorld_cell m.w re.t str k hkl
      · rw [List.getElem?_map] at hy
        obtain ⟨b, hb, rfl⟩ := Option.map_eq_some_iff.1 hy
        cases j with
        | succ j => simp at hw
        | zero =>
          simp at hw
          subst hw
          simp only [Nat.mul_one, Nat.add_zero, List.getD_eq_getElem?_getD, hb, Option.getD_some]
          exact .int _ _
  · rename_i xs
    cases hS : rs.ty <;> rw [hS] at h <;> try exact h.elim
    rename_i e
    cases hT : rd.ty <;> rw [hT] at h <;> try exact h.elim
    obtain ⟨re, hre, ht_, h_⟩ := lookK_spec h
    clear h
    subst ht_
    obtain ⟨i2, z2, de, hi2, hs2, hb2, hz2, hzz2, hde, htye⟩ := row_info hC hre
    split at h_
    case h_2 => exact h_.elim
    rename_i hE
    obtain ⟨bs, rfl, hk⟩ := h_
    rw [hS] at hty
    rw [hT] at hty'
    rw [hE] at htye
    obtain rfl : ds = .slice re.t := by cases ds <;> simp [tyOf] at hty <;> rw [hty]
    obtain rfl : dd = .string := by cases dd <;> simp [tyOf] at hty' <;> rfl
    obtain rfl : de = .int .u8 := by cases de <;> simp [tyOf] at htye <;> rw [htye]
    refine ⟨_, top, hk, Ext.refl _, step_val fun m a hinv he => ?_⟩
    have := ev_rel he mx hp
    generalize hv : a.eval x = v at this
    cases this with
    | d _ _ hv2 =>
      cases hv2 with
      | sl sz _ A n c ad u hn hc hm hA hsz hcell hr =>
        refine ⟨.string ⟨bs.toArray⟩, ex_run (ex a) ?_, .d _ _ (.str _)⟩
        rw [hv]
        simp only [List.length_map] at hn
        rcases Nat.eq_zero_or_pos n with h0 | h0
        · subst h0
          obtain rfl : bs = [] := List.eq_nil_of_length_eq_zero hn
          cases A with
          | none => rw [run_convert_bytes_nil m.w rs.t re.t hd hde 0 c rd.t hd']; rfl
          | some a0 =>
            simp only [convert, Sem.run_bind, run_under hd, run_under hd', run_under hde, Result.andThen_ok, Conv.bytesToString, loadCells, loadCellsFrom, Sem.run_pure]
            rfl
        · have hAs := hA h0
          subst hAs
          have hc1 : ∀ k, k < n → m.w.cell? (ad.add k) = some (.int .u8 ((bs.map fun b => (b.toNat : Int)).getD k 0)) := fun k hk => by
            have hb : bs[k]? = some (bs[k]'(by omega)) := List.getElem?_eq_getElem (by omega)
            have h1 : (bs.map fun b => [DV.int .u8 (b.toNat : Int)])[k]? = some [DV.int .u8 ((bs[k]'(by omega)).toNat : Int)] := by rw [List.getElem?_map, hb]; rfl
            have hs1 : sz = 1 := (hsz _ (List.mem_of_getElem? h1)).symm
            subst hs1
            have h2 := (hcell k _ 0 _ h1 rfl).2
            have h3 := hr k _ 0 _ h1 rfl
            rw [Nat.mul_one, Nat.add_zero] at h2 h3
            rw [h2]
            generalize u k = uu at h3
            cases h3
            simp [List.getD_eq_getElem?_getD, hb]
          have hspot : ad.spot = none := by
            have := hc1 0 h0
            rw [show ad.add 0 = ad from rfl] at this
            unfold World.cell? at this
            cases hsp : ad.spot with
            | none => rfl
            | some q => rw [hsp] at this; split at this <;> simp at this
          obtain ⟨b0, off, sp⟩ := ad
          simp only at hspot
          subst hspot
          rw [run_convert_bytes_arg m.w rs.t re.t hd hde b0 off n c (bs.map fun b => (b.toNat : Int)) (by simp [hn]) (fun k hk => by have := hc1 k hk; rwa [add_none] at this) rd.t hd']
          simp [strOfNums, Function.comp_def]
  · exact h.elim

theorem ldK_step {C : Cx} (hC : C.Ok) {H : List (List Blk)} {o : Oper} {t : Nat} {x : Operand} (ho : o.op = .load t x) {tm : List PV} {top : List Blk} {p : PV} (hp : ev? tm x = some p) {K : PV → List Blk → Prop} (h : ldK C H top t p K) :
    ∃ pv top', K pv top' ∧ Ext top top' ∧ OpStep C H o tm top pv top' := by
  have plain : loadK C H top t p (fun q => K q top) → ∃ pv top', K pv top' ∧ Ext top top' ∧ OpStep C H o tm top pv top' := fun h => by
    obtain ⟨q, hq, hh⟩ := loadK_spec hC h
    refine ⟨q, top, hq, Ext.refl _, step_val fun m a hi he => ?_⟩
    obtain ⟨u, hu, hr⟩ := hh m _ hi (ev_rel he (by simp [ho, Op.operands]) hp)
    exact ⟨u, ex_run (by simp [execOp, ho]) hu, hr⟩
  unfold ldK at h
  split at h
  case h_2 => exact plain h
  rename_i i sz e j
  obtain ⟨b, hb, hB⟩ := getK_spec.1 h
  clear h
  split at hB
  · rename_i et sz' xs
    simp only [ifK] at hB
    split at hB
    case h_2 => exact hB.elim
    rename_i hsz
    obtain rfl := Nat.eq_of_beq_eq_true hsz
    obtain ⟨x0, hx0, hC1⟩ := hB
    obtain ⟨r, hr, ht_, h_⟩ := lookK_spec hC1
    clear hC1
    subst ht_
    obtain ⟨hlen, h⟩ := subK_spec.1 h_
    obtain ⟨ps, top', h, ⟨ll, rfl, hng, hsubs⟩, hpl, hh⟩ := viewsK_spec (H := H) _ _ _ _ h
    obtain ⟨q, hq, hone, hrel⟩ := wholeK_spec h
    refine ⟨q, _, hq, ⟨ll, rfl, hng⟩, fun m a hi he hfree next Q hn => ?_⟩
    have hv := ev_rel he (by simp [ho, Op.operands]) hp
    generalize hve : a.eval x = v at hv
    cases hv with
    | rptr _ _ _ _ _ g N c hρ =>
      obtain ⟨flat, h0, hs, hown, _, _, _⟩ := RO.parts (hi.blk 0 i _ hb _ hρ)
      have hyl : ((x0.drop j).take r.size).length = r.size := by rw [List.length_take, List.length_drop]; omega
      have hxl : x0.length = sz' := hs x0 (List.mem_of_getElem? hx0)
      have hel : e < xs.length := (List.getElem?_eq_some_iff.1 hx0).1
      have hle : e * sz' + sz' ≤ xs.length * sz' := by rw [← Nat.succ_mul]; exact Nat.mul_le_mul_right _ hel
      have hfl : flat.length = xs.length * sz' := hown.1
      have fget : ∀ k, k < r.size → flat[e * sz' + (j + k)]? = some (flat.getD (e * sz' + (j + k)) undef) := fun k hk => by rw [List.getD_eq_getElem?_getD, List.getElem?_eq_getElem (by omega)]; rfl
      have ylt : ∀ (k : Nat) y, ((x0.drop j).take r.size)[k]? = some y → k < r.size ∧ x0[j + k]? = some y := fun k y hk => by
        have h1 := (List.getElem?_eq_some_iff.1 hk).1
        rw [hyl] at h1
        rw [List.getElem?_take_of_lt h1, List.getElem?_drop] at hk
        exact ⟨h1, hk⟩
      obtain ⟨m', e1, hg, e3, hI, e5⟩ := hh m et sz' xs x0 _ flat (fun k => flat.getD (e * sz' + (j + k)) undef) hi (fun k hk1 hk2 => hfree k hk1 hk2) hb hx0 (fun k y hk => (ylt k y hk).2) hρ hown (fun k y hk => fget k (ylt k y hk).1)
      have hL : ((List.range r.size).map fun k => flat.getD (e * sz' + (j + k)) undef).length = r.size := by simp
      have hone' : r.ty.isAgg = false → r.size = 1 := fun ha => by have := hone ha; rw [hpl, hyl] at this; exact this
      have hrun := run_loadAt' hC hr (w := m.w) (ad := ⟨g, e * sz' + j, none⟩) (vs := (List.range r.size).map fun k => flat.getD (e * sz' + (j + k)) undef) (fun k u hk => by
        rcases Nat.lt_or_ge k r.size with hlt | hge
        · simp [hlt] at hk
          have := hown.cells (g := g) rfl _ _ (fget k hlt)
          rw [add_none] at this ⊢
          rw [Nat.zero_add] at this
          rw [show e * sz' + j + k = e * sz' + (j + k) by omega, this]
          simpa using hk
        · rw [List.getElem?_eq_none (by simp; omega)] at hk; cases hk) hL hone'
      unfold Oper.wp
      rw [ex_run (by simp only [execOp, ho, hve]) hrun, ← e1]
      refine hn _ m' hg e3 (fun j' b' u k h1 h2 _ hk => ?_) hI (hrel m' _ (by rw [hL, hpl, hyl]) (fun k p' u hp' hu => ?_))
      · rw [List.getElem?_append_right h1] at h2
        exact absurd hk (Blk.isSub_has (hsubs b' (List.mem_of_getElem? h2)))
      · rcases Nat.lt_or_ge k r.size with hlt | hge
        · simp [hlt] at hu
          have := e5 k p' hp'
          rw [List.getD_eq_getElem?_getD] at this
          rwa [hu] at this
        · rw [List.getElem?_eq_none (by simp; omega)] at hu; cases hu
  · rename_i p' e' c'
    obtain ⟨e2, sz2, ys2, hD, et, sz0, xs0, x00, w1, w2, w3⟩ := ownAtK_spec hB
    clear hB
    simp only [ifK] at hD
    split at hD
    case h_2 => exact hD.elim
    rename_i hsz
    obtain rfl := Nat.eq_of_beq_eq_true hsz
    obtain ⟨x0, hx0, hC1⟩ := hD
    obtain ⟨r, hr, ht_, h_⟩ := lookK_spec hC1
    clear hC1
    subst ht_
    obtain ⟨hlen, h⟩ := subK_spec.1 h_
    split at h
    case h_2 => exact h.elim
    rename_i hno
    obtain ⟨q, hq, hone, hrel⟩ := wholeK_spec (pvsK_spec h)
    refine ⟨q, top, hq, Ext.refl _, step_val fun m a hi he => ?_⟩
    have hv := ev_rel he (by simp [ho, Op.operands]) hp
    generalize hve : a.eval x = v at hv
    cases hv with
    | rptr _ _ _ _ _ g N c hρ =>
      obtain ⟨_, _, _, _, _, _, hro⟩ := hi.at hb w1 w2 w3 hρ
      obtain ⟨flat, h0, hs, hown, hcell, _, _⟩ := hro.parts
      have hyl : ((x0.drop j).take r.size).length = r.size := by rw [List.length_take, List.length_drop]; omega
      have hxl : x0.length = sz2 := hs x0 (List.mem_of_getElem? hx0)
      have hel : e < ys2.length := (List.getElem?_eq_some_iff.1 hx0).1
      have hle : e * sz2 + sz2 ≤ ys2.length * sz2 := by rw [← Nat.succ_mul]; exact Nat.mul_le_mul_right _ hel
      have hfl : flat.length = ys2.length * sz2 := hown.1
      have hL : ((flat.drop (e * sz2 + j)).take r.size).length = r.size := by rw [List.length_take, List.length_drop]; omega
      have hone' : r.ty.isAgg = false → r.size = 1 := fun ha => by
        have := hone ha
        rw [List.length_map, hyl] at this; exact this
      refine ⟨_, ex_run (by simp only [execOp, ho, hve]) (run_loadAt' hC hr (w := m.w) (ad := ⟨g, e * sz2 + j, none⟩) (vs := (flat.drop (e * sz2 + j)).take r.size) (fun k u hk => ?_) hL hone'), hrel m _ (by rw [hL, List.length_map, hyl]) (fun k p'' u hp' hu => ?_)⟩
      · rw [add_none]
        have hk2 : flat[e * sz2 + j + k]? = some u := by
          rcases Nat.lt_or_ge k r.size with hlt | hge
          · rw [List.getElem?_take_of_lt hlt, List.getElem?_drop] at hk; exact hk
          · rw [List.getElem?_eq_none (by omega)] at hk; cases hk
        have := hown.cells (g := g) rfl _ u hk2
        rwa [add_none, Nat.zero_add] at this
      · rcases Nat.lt_or_ge k r.size with hlt | hge
        · rw [List.getElem?_map] at hp'
          obtain ⟨y, hy, rfl⟩ := Option.map_eq_some_iff.1 hp'
          have hy' := hy
          rw [List.getElem?_take_of_lt hlt, List.getElem?_drop] at hy
          rw [List.getElem?_take_of_lt hlt, List.getElem?_drop] at hu
          have := hcell e x0 (j + k) y u hx0 hy (by rw [← Nat.add_assoc]; exact hu)
          cases this with
          | plain _ _ h => exact .d _ _ h
          | own e3 sz3 zs => exact absurd rfl (noOwns_spec hno _ (List.mem_of_getElem? hy') _ _ _)
        · rw [List.getElem?_eq_none (by omega)] at hu; cases hu
  · exact plain hB
/-- What an operation without a call comes to. -/
theorem opK_plain {C : Cx} (hC : C.Ok) {H : List (List Blk)} {o : Oper} {tm : List PV} {top : List Blk} {K : PV → List Blk → Prop} (hcall : ∀ c, o.op ≠ .call c) (h : opK C H o.op tm top K) :
    ∃ pv top', K pv top' ∧ Ext top top' ∧ OpStep C H o tm top pv top' := by
  cases ho : o.op with
  | move x =>
    rw [ho] at h
    obtain ⟨p, hp, h⟩ := evK_ev h
    exact ⟨p, top, h, Ext.refl _, step_val fun m a hi he => ⟨a.eval x, by simp [execOp, ho], ev_rel he (by simp [ho, Op.operands]) hp⟩⟩
  | assign x =>
    rw [ho] at h
    obtain ⟨p, hp, h⟩ := evK_ev h
    exact ⟨p, top, h, Ext.refl _, step_val fun m a hi he => ⟨a.eval x, by simp [execOp, ho], ev_rel he (by simp [ho, Op.operands]) hp⟩⟩
  | pick c x y =>
    rw [ho] at h
    obtain ⟨p, hp, h⟩ := evK_ev h
    have mc : c ∈ o.op.operands.toList := by simp [ho, Op.operands]
    have mx : x ∈ o.op.operands.toList := by simp [ho, Op.operands]
    have my : y ∈ o.op.operands.toList := by simp [ho, Op.operands]
    have ex : ∀ (a : Act) (w : World) (b : Bool), a.eval c = .bool b → (execOp a.eval o).run C.P w = .ok (.value (if b then a.eval x else a.eval y)) w := fun a w b hb => by
      simp [execOp, ho, asBool, hb]
    cases p with
    | kb b =>
      cases b with
      | true =>
        obtain ⟨q, hq, h⟩ := evK_ev h
        refine ⟨q, top, h, Ext.refl _, step_val fun m a hi he => ?_⟩
        have := ev_rel he mc hp
        generalize hv : a.eval c = v at this
        cases this
        exact ⟨_, ex a _ true hv, ev_rel he mx hq⟩
      | false =>
        obtain ⟨q, hq, h⟩ := evK_ev h
        refine ⟨q, top, h, Ext.refl _, step_val fun m a hi he => ?_⟩
        have := ev_rel he mc hp
        generalize hv : a.eval c = v at this
        cases this
        exact ⟨_, ex a _ false hv, ev_rel he my hq⟩
    | d z =>
      obtain ⟨q, hq, h⟩ := evK_ev h
      obtain ⟨q', hq', h⟩ := evK_ev h
      cases z with
      | bool b =>
        have fin : ∀ (bx by_ : Bool), (∀ m v, RP m q v → v = .bool bx) → (∀ m v, RP m q' v → v = .bool by_) → K (.d (.bool (bif b then bx else by_))) top →
            ∃ pv top', K pv top' ∧ Ext top top' ∧ OpStep C H o tm top pv top' := by
          intro bx by_ hbx hby hk
          refine ⟨_, top, hk, Ext.refl _, step_val fun m a hi he => ?_⟩
          have := ev_rel he mc hp
          generalize hv : a.eval c = v at this
          cases this with
          | d _ _ hb =>
            cases hb
            refine ⟨_, ex a _ b hv, ?_⟩
            rw [hbx m _ (ev_rel he mx hq), hby m _ (ev_rel he my hq')]
            cases b <;> exact rd_bool _
        have d1 : ∀ (b : Bool) m v, RP m (.d (.bool b)) v → v = .bool b := fun b m v hv => by cases hv with | d _ _ hv => cases hv; rfl
        have d2 : ∀ (b : Bool) m v, RP m (.kb b) v → v = .bool b := fun b m v hv => by cases hv; rfl
        simp only [pickK] at h
        split at h
        · exact fin _ _ (d1 _) (d1 _) h
        · exact fin _ _ (d2 _) (d1 _) h
        · exact fin _ _ (d1 _) (d2 _) h
        · exact fin _ _ (d2 _) (d2 _) h
        · exact h.elim
      | _ => exact h.elim
    | _ =>
      obtain ⟨q, hq, h⟩ := evK_ev h
      obtain ⟨q', hq', h⟩ := evK_ev h
      exact h.elim
  | alloc e =>
    rw [ho] at h
    obtain ⟨r, hr, ht_, h_⟩ := lookK_spec h
    clear h
    subst ht_
    have h := h_
    clear h_
    unfold newK at h
    rw [lenK_spec, snocK_spec] at h
    obtain ⟨i, z, d, hi, hs, hb, hz, hzz, hd, hty⟩ := row_info hC hr
    refine ⟨_, _, h, Ext.app _ _, step_new rfl fun m a _ he => ⟨.pointer (some ⟨m.w.heap.size, 0, none⟩), z.cells, r.t, .pointer (some ⟨m.w.heap.size, 0, none⟩), ?_, rfl, fun hf => ⟨?_, .ptr _ _ _ _ (by simp [M.new])⟩⟩⟩
    · simp [execOp, ho, Instr.alloc, run_zero hi hz, newVar, newRow]
    · intro v hv
      simp only [M.new, and_self, if_true, Option.some.injEq] at hv
      subst hv
      refine ⟨m.w.heap.size, z.cells, r.t, rfl, heap_new _ _, by rw [← hzz]; simp, fun j p u hp hu => ?_⟩
      rw [← hzz, List.getElem?_map] at hp
      obtain ⟨u', hu', rfl⟩ := Option.map_eq_some_iff.1 hp
      rw [Array.getElem?_toList, hu] at hu'
      cases hu'
      exact rp_zero _ _
  | box e x =>
    rw [ho] at h
    obtain ⟨p, hp, h⟩ := evK_ev h
    obtain ⟨cs, h, hcell, hcs⟩ := cells_rel h
    unfold newK at h
    rw [lenK_spec, snocK_spec] at h
    have mx : x ∈ o.op.operands.toList := by simp [ho, Op.operands]
    refine ⟨_, _, h, Ext.app _ _, step_new rfl fun m a _ he => ⟨.pointer (some ⟨m.w.heap.size, 0, none⟩), (a.eval x).cells, e, .pointer (some ⟨m.w.heap.size, 0, none⟩), ?_, rfl, fun hf => ⟨?_, .ptr _ _ _ _ (by simp [M.new])⟩⟩⟩
    · simp [execOp, ho, Instr.box, newVar, newRow]
    · obtain ⟨hsz, hrel⟩ := hcs m _ (ev_rel he mx hp)
      intro v hv
      simp only [M.new, and_self, if_true, Option.some.injEq] at hv
      subst hv
      exact ⟨m.w.heap.size, _, e, rfl, heap_new _ _, hsz, fun j p u hp hu => (hrel j p u hp hu).keep (grow_new _ _ _ _ hf).keep⟩
  | build t parts =>
    rw [ho] at h
    obtain ⟨r, hr, ht_, h_⟩ := lookK_spec h
    clear h
    subst ht_
    have h := h_
    clear h_
    simp only [ifK] at h
    split at h
    case h_2 => exact h.elim
    rename_i hagg
    obtain ⟨pl, hpl, hrun⟩ := build_run hC hr hagg
    obtain ⟨cs', hk, hh⟩ := buildK_spec (xs := o.op.operands.toList) hpl parts.toList r.zero _ h (fun x hx => by rw [ho]; simp only [Op.operands, List.toList_toArray]; exact List.mem_map_of_mem hx)
    refine ⟨_, top, hk, Ext.refl _, step_val fun m a hi he => ?_⟩
    obtain ⟨zero, hz, hfill⟩ := hrun m.w (parts.map fun x => (x.1, a.eval x.2))
    obtain ⟨arr, h1, h2, h3⟩ := hh m a zero he (by rw [← hz]; simp) (fun j p u hp hu => by
      rw [← hz, List.getElem?_map] at hp
      obtain ⟨u', hu', rfl⟩ := Option.map_eq_some_iff.1 hp
      rw [Array.getElem?_toList, hu] at hu'
      cases hu'
      exact rp_zero _ _)
    refine ⟨.agg arr, ex_run (s := Instr.build r.t (parts.map fun x => (x.1, a.eval x.2))) (by simp [execOp, ho]) (hfill arr (by rw [Array.toList_map]; exact h1)), .agg _ _ h2.symm h3⟩
  | buildSlice t n parts =>
    rw [ho] at h
    obtain ⟨r, hr, ht_, h_⟩ := lookK_spec h
    clear h
    subst ht_
    have h := h_
    clear h_
    split at h
    case h_2 => exact h.elim
    rename_i e hty0
    obtain ⟨r', hr', ht_, h_⟩ := lookK_spec h
    clear h
    subst ht_
    have h := h_
    clear h_
    simp only [ifK] at h
    split at h
    case h_2 => exact h.elim
    rename_i hpos
    have hpos : 0 < r'.size := by simpa [Nat.blt_eq] using hpos
    split at h
    case h_2 => exact h.elim
    rename_i hmax
    have hmax : n * r'.size ≤ 16777216 := Nat.le_of_ble_eq_true hmax
    obtain ⟨es, h, hel, hes, hfill⟩ := elems_fill (xs := o.op.operands.toList) parts.toList 0 _ h (fun x hx => by rw [ho]; simp only [Op.operands, List.toList_toArray]; exact List.mem_map_of_mem hx)
    rw [lenK_spec] at h
    split at h
    case h_2 => exact h.elim
    rename_i hn
    have hn := Nat.eq_of_beq_eq_true hn
    obtain ⟨i, z, d, hi, hs, hb, hz, hzz, hd, hty⟩ := row_info hC hr
    obtain ⟨i', z', d', hi', hs', hb', hz', hzz', hd', hty'⟩ := row_info hC hr'
    rw [hty0] at hty
    obtain ⟨e, rfl⟩ : ∃ e, d = .slice e := by cases d <;> simp [tyOf] at hty <;> exact ⟨_, rfl⟩
    simp only [tyOf, Ty.slice.injEq] at hty
    subst hty
    have hrun0 : ∀ (m : M) (a : Act), EvR m a tm o.op.operands.toList → ∃ arr : Array Value, arr.size = n * r'.size ∧ (execOp a.eval o).run C.P m.w = .ok (.value (.slice (some ⟨m.w.heap.size, 0, none⟩) n n)) (m.w.alloc (.cells arr r'.t (0, 0))) ∧
        ∀ (i : Nat) x (j : Nat) y u, es[i]? = some x → x[j]? = some y → arr[(0 + i) * r'.size + j]? = some u → RD m.w m.ok y u := by
      intro m a he
      obtain ⟨zc, hzc⟩ : ∃ zc : Array Value, zc = if n * r'.size = 0 then #[] else z'.cells := ⟨_, rfl⟩
      obtain ⟨arr, h1, h2, _, h4⟩ := hfill m a ((Array.range (n * r'.size)).map (zc[· % zc.size]!)) he (by simp [← hel, hn])
      have hsz : arr.size = n * r'.size := by rw [h2]; simp
      have hrun : (execOp a.eval o).run C.P m.w = .ok (.value (.slice (some ⟨m.w.heap.size, 0, none⟩) n n)) (m.w.alloc (.cells arr r'.t (0, 0))) := by
        refine ex_run (s := Instr.buildSlice r.t n (parts.map fun x => (x.1, a.eval x.2))) (by simp [execOp, ho]) ?_
        simp only [Instr.buildSlice, Sem.run_bind, run_under hd, Result.andThen_ok, run_size hi', hs']
        rw [if_neg (by omega)]
        by_cases h0 : n * r'.size = 0
        · rw [if_pos h0] at hzc
          rw [if_pos h0, ← hzc]
          simp only [Sem.run_bind, Sem.run_pure, Result.andThen_ok, Array.toList_map]
          rw [h1]
          simp [newRow]
        · rw [if_neg h0] at hzc
          rw [if_neg h0]
          simp only [Sem.run_bind, run_zero hi' hz', Sem.run_pure, Result.andThen_ok, Array.toList_map]
          rw [← hzc, h1]
          simp [newRow]
      exact ⟨arr, hsz, hrun, h4⟩
    cases n with
    | zero =>
      change (match C.frz with | true => K .emp top | false => newK top (.row r'.t r'.size es) (fun i top' => K (.row 0 i 0) top')) at h
      cases hfz : C.frz with
      | true =>
        rw [hfz] at h
        refine ⟨_, _, h, Ext.refl _, fun m a hinv he hfree next Q hnext => ?_⟩
        obtain ⟨arr, hsz, hrun, h4⟩ := hrun0 m a he
        unfold Oper.wp
        rw [hrun]
        have hsz' : (m.w.alloc (.cells arr r'.t (0, 0))).heap.size = m.w.heap.size + 1 := by simp
        have hg : Grow m ⟨m.w.alloc (.cells arr r'.t (0, 0)), m.ρ, m.U⟩ := ⟨rfl, rfl, rfl, by rw [hsz']; omega, fun k hk => heap_old _ _ _ hk, fun _ _ _ h => h, fun _ _ => Iff.rfl⟩
        exact hnext _ _ hg (fun _ _ _ => rfl) (fun j b u k h1 h2 => by have := (List.getElem?_eq_some_iff.1 h2).1; omega) (hinv.of_grow hg rfl rfl) (.emp _)
      | false =>
        rw [hfz] at h
        change newK top (.row r'.t r'.size es) (fun i top' => K (.row 0 i 0) top') at h
        unfold newK at h
        rw [lenK_spec, snocK_spec] at h
        refine ⟨_, _, h, Ext.app _ _, fun m a hinv he hfree next Q hnext => ?_⟩
        obtain ⟨arr, hsz, hrun, h4⟩ := hrun0 m a he
        have hfr : m.ρ 0 top.length = none := hfree _ (Nat.le_refl _) (by simp)
        unfold Oper.wp
        rw [hrun]
        have hg := grow_new m (.cells arr r'.t (0, 0)) top.length (.slice (some ⟨m.w.heap.size, 0, none⟩) 0 0) hfr
        refine hnext _ (m.new (.cells arr r'.t (0, 0)) top.length (.slice (some ⟨m.w.heap.size, 0, none⟩) 0 0)) hg (fun l j hj => ?_) (fun j b' u' k h1 h2 hu' hk => ?_) (inv_new hinv hfr rfl rfl ?_) (.row _ _ _ 0 0 _ (by simp [M.new]) (Nat.le_refl _) (Nat.le_refl _))
        · simp only [M.new]
          rw [if_neg]
          rintro ⟨rfl, rfl⟩
          exact hj ⟨rfl, Nat.le_refl _, by simp⟩
        · obtain rfl : j = top.length := by have := (List.getElem?_eq_some_iff.1 h2).1; simp at this; omega
          simp only [M.new, and_self, if_true, Option.some.injEq] at hu'
          subst hu'
          rw [List.getElem?_append_right (Nat.le_refl _), Nat.sub_self] at h2
          cases h2
          cases hk
          exact Nat.le_refl _
        · intro v hv
          simp only [M.new, and_self, if_true, Option.some.injEq] at hv
          subst hv
          refine ⟨hpos, hes, arr.toList, ?_, fun i x j y u hx hy hu => ?_⟩
          · rw [hn]
            exact World.ownsRow_lit m.w arr 0 (Nat.zero_le _) (by unfold maxLen; omega) hsz
          · exact RD.keep hg.keep (h4 i x j y u hx hy (by rw [Nat.zero_add]; simpa using hu))
    | succ n =>
      change K (.d (.sl es)) top at h
      refine ⟨_, _, h, Ext.refl _, fun m a hinv he hfree next Q hnext => ?_⟩
      obtain ⟨arr, hsz, hrun, h4⟩ := hrun0 m a he
      unfold Oper.wp
      rw [hrun]
      have hsz' : (m.w.alloc (.cells arr r'.t (0, 0))).heap.size = m.w.heap.size + 1 := by simp
      have hg : Grow m ⟨m.w.alloc (.cells arr r'.t (0, 0)), m.ρ, m.U⟩ := ⟨rfl, rfl, rfl, by rw [hsz']; omega, fun k hk => heap_old _ _ _ hk, fun _ _ _ h => h, fun _ _ => Iff.rfl⟩
      refine hnext _ _ hg (fun _ _ _ => rfl) (fun j b u k h1 h2 => by have := (List.getElem?_eq_some_iff.1 h2).1; omega) (hinv.of_grow hg rfl rfl) ?_
      have hn1 : es.length = n + 1 := hn
      have cell : ∀ (i : Nat) x (j : Nat) y, es[i]? = some x → x[j]? = some y → ∃ u, arr[i * r'.size + j]? = some u := fun i x j y hx hy => by
        have h1 : i < n + 1 := by rw [← hn1]; exact (List.getElem?_eq_some_iff.1 hx).1
        have h2 : j < r'.size := by rw [← hes x (List.mem_of_getElem? hx)]; exact (List.getElem?_eq_some_iff.1 hy).1
        have h3 : i * r'.size + r'.size ≤ (n + 1) * r'.size := by rw [← Nat.succ_mul]; exact Nat.mul_le_mul_right _ h1
        exact ⟨_, Array.getElem?_eq_getElem (by omega)⟩
      refine .d _ _ (.sl r'.size _ _ _ _ ⟨m.w.heap.size, 0, none⟩ (fun k => arr.getD k undef) hn1 (Nat.le_refl _) (by have : n + 1 ≤ (n + 1) * r'.size := Nat.le_mul_of_pos_right _ hpos; omega) (fun _ => rfl) hes (fun i x j y hx hy => ?_) (fun i x j y hx hy => ?_))
      · obtain ⟨u, hu⟩ := cell i x j y hx hy
        refine ⟨⟨?_, fun hU => ?_⟩, ?_⟩
        · show m.w.heap.size < (m.w.alloc (.cells arr r'.t (0, 0))).heap.size; omega
        · have := hinv.lt _ hU; simp at this
        · rw [add_none, Nat.zero_add]
          have hh := heap_new m.w (.cells arr r'.t (0, 0))
          show (m.w.alloc (.cells arr r'.t (0, 0))).cell? ⟨m.w.heap.size, i * r'.size + j, none⟩ = _
          simp only [World.cell?, hh, hu]
          simp [hu]
      · obtain ⟨u, hu⟩ := cell i x j y hx hy
        have := (h4 i x j y u hx hy (by rw [Nat.zero_add]; exact hu)).keep hg.keep
        simpa [hu] using this
  | load t x =>
    rw [ho] at h
    obtain ⟨p, hp, h⟩ := evK_ev h
    exact ldK_step hC ho hp h
  | fieldAddr t x f =>
    rw [ho] at h
    obtain ⟨p, hp, h⟩ := evK_ev h
    obtain ⟨q, hq, hh⟩ := fieldK_spec hC h
    refine ⟨q, top, hq, Ext.refl _, step_val fun m a hi he => ?_⟩
    obtain ⟨u, hu, hr⟩ := hh m _ (ev_rel he (by simp [ho, Op.operands]) hp)
    exact ⟨u, ex_run (by simp [execOp, ho]) (hu _), hr⟩
  | indexAddr t x ix =>
    rw [ho] at h
    obtain ⟨p, hp, h⟩ := evK_ev h
    obtain ⟨p2, hp2, h⟩ := evK_ev h
    split at h
    case h_2 => exact h.elim
    rename_i k n
    obtain ⟨q, hq, hh⟩ := idxK_spec hC h
    refine ⟨q, top, hq, Ext.refl _, step_val fun m a hi he => ?_⟩
    have h2 := ev_rel he (x := ix) (by simp [ho, Op.operands]) hp2
    generalize hv : a.eval ix = v at h2
    cases h2 with
    | d _ _ h2 =>
      cases h2
      obtain ⟨u, hu, hr⟩ := hh m _ k hi (ev_rel he (by simp [ho, Op.operands]) hp)
      exact ⟨u, ex_run (by simp [execOp, ho, hv]) hu, hr⟩
  | binOp op t x y ty =>
    rw [ho] at h
    obtain ⟨p, hp, h⟩ := evK_ev h
    obtain ⟨p2, hp2, h⟩ := evK_ev h
    obtain ⟨q, hq, hh⟩ := binK_spec hC h
    refine ⟨q, top, hq, Ext.refl _, step_val fun m a hi he => ?_⟩
    obtain ⟨u, hu, hr⟩ := hh m _ _ x y (ev_rel he (by simp [ho, Op.operands]) hp) (ev_rel he (by simp [ho, Op.operands]) hp2)
    exact ⟨u, ex_run (by simp only [execOp, ho]) hu, hr⟩
  | unOp op t x =>
    rw [ho] at h
    cases op with
    | not =>
      obtain ⟨p, hp, h⟩ := evK_ev h
      have mx : x ∈ o.op.operands.toList := by simp [ho, Op.operands]
      have ex : ∀ (a : Act) (w : World) (b : Bool), a.eval x = .bool b → (execOp a.eval o).run C.P w = .ok (.value (.bool (!b))) w := fun a w b hb => by
        simp [execOp, ho, Op.unary, hb]
      split at h
      · refine ⟨_, top, h, Ext.refl _, step_val fun m a hi he => ?_⟩
        have := ev_rel he mx hp
        generalize hv : a.eval x = v at this
        cases this
        exact ⟨_, ex a _ _ hv, .ub _⟩
      · refine ⟨_, top, h, Ext.refl _, step_val fun m a hi he => ?_⟩
        have := ev_rel he mx hp
        generalize hv : a.eval x = v at this
        cases this
        exact ⟨_, ex a _ _ hv, .kb _⟩
      · refine ⟨_, top, h, Ext.refl _, step_val fun m a hi he => ?_⟩
        have := ev_rel he mx hp
        generalize hv : a.eval x = v at this
        cases this with
        | d _ _ hb => cases hb; exact ⟨_, ex a _ _ hv, rd_bool _⟩
      · exact h.elim
    | _ => exact h.elim
  | slice t x lo hi mx =>
    rw [ho] at h
    cases mx with
    | some _ => exact h.elim
    | none =>
      obtain ⟨p, hp, h⟩ := evK_ev h
      obtain ⟨l, h, hl0, hl1⟩ := optEvK_spec h
      obtain ⟨hh, h, hh0, hh1⟩ := optEvK_spec h
      obtain ⟨q, hq, hq2⟩ := slTyK_spec hC h
      refine ⟨q, top, hq, Ext.refl _, step_val fun m a hinv he => ?_⟩
      have memx : x ∈ o.op.operands.toList := by rw [ho]; simp [Op.operands]
      have meml : ∀ y, lo = some y → y ∈ o.op.operands.toList := fun y hy => by rw [ho, hy]; simp [Op.operands]
      have memh : ∀ y, hi = some y → y ∈ o.op.operands.toList := fun y hy => by rw [ho, hy]; simp [Op.operands]
      obtain ⟨u, hu, hr3⟩ := hq2 m (a.eval x) (lo.map a.eval) (hi.map a.eval) (ev_rel he memx hp)
        (fun p' hp' => by
          cases lo with
          | none => rw [hl0 rfl] at hp'; cases hp'
          | some y => obtain ⟨p2, h1, h2⟩ := hl1 y rfl; rw [h1] at hp'; cases hp'; exact ⟨_, rfl, ev_rel he (meml y rfl) h2⟩)
        (fun hn => by
          cases lo with
          | none => rfl
          | some y => obtain ⟨p2, h1, h2⟩ := hl1 y rfl; rw [h1] at hn; cases hn)
        (fun p' hp' => by
          cases hi with
          | none => rw [hh0 rfl] at hp'; cases hp'
          | some y => obtain ⟨p2, h1, h2⟩ := hh1 y rfl; rw [h1] at hp'; cases hp'; exact ⟨_, rfl, ev_rel he (memh y rfl) h2⟩)
        (fun hn => by
          cases hi with
          | none => rfl
          | some y => obtain ⟨p2, h1, h2⟩ := hh1 y rfl; rw [h1] at hn; cases hn)
      exact ⟨u, ex_run (by simp [execOp, ho]) (hu _), hr3⟩
  | makeFunc fn fs cs =>
    rw [ho] at h
    obtain ⟨ps, h, hl, hr⟩ := evsK_spec (ys := o.op.operands.toList) h (fun x hx => by rw [ho]; simp only [Op.operands, Array.toList_append]; exact List.mem_append_left _ hx)
    obtain ⟨qs, h, hl2, hr2⟩ := evsK_spec (ys := o.op.operands.toList) h (fun x hx => by rw [ho]; simp only [Op.operands, Array.toList_append]; exact List.mem_append_right _ hx)
    refine ⟨_, top, h, Ext.refl _, step_val fun m a hi he => ⟨.func fn (fs.map a.eval) (cs.map a.eval), by simp [execOp, ho, Instr.makeFunc], .func _ _ _ _ _ (by simp [hl]) (by simp [hl2]) (fun j p v hp hv => ?_) (fun j p v hp hv => ?_)⟩⟩
    · rw [Array.getElem?_map] at hv
      obtain ⟨x, hx, rfl⟩ := Option.map_eq_some_iff.1 hv
      exact hr m a he j p x hp (by simpa using hx)
    · rw [Array.getElem?_map] at hv
      obtain ⟨x, hx, rfl⟩ := Option.map_eq_some_iff.1 hv
      exact hr2 m a he j p x hp (by simpa using hx)
  | index t x ix =>
    rw [ho] at h
    obtain ⟨p, hp, h⟩ := evK_ev h
    obtain ⟨p2, hp2, h⟩ := evK_ev h
    split at h
    case h_2 => exact h.elim
    rename_i cs k n h__
    clear h__
    obtain ⟨r, hr, ht_, h_⟩ := lookK_spec h
    clear h
    subst ht_
    obtain ⟨ii, z, d, hii, hs, hb, hz, hzz, hd, hty⟩ := row_info hC hr
    split at h_
    case h_2 => exact h_.elim
    rename_i len e hty0
    obtain ⟨h0, h1, h_2⟩ := h_
    obtain ⟨r', hr', ht_, h⟩ := lookK_spec h_2
    clear h_2
    subst ht_
    obtain ⟨i2, z2, d2, hi2, hs2, hb2, hz2, hzz2, hd2, hty2⟩ := row_info hC hr'
    rw [hty0] at hty
    obtain ⟨rfl⟩ : d = .array len r'.t := by cases d <;> simp [tyOf] at hty <;> simp [hty]
    obtain ⟨hsub, h⟩ := subK_spec.1 h
    obtain ⟨q, hq, hone, hrel⟩ := wholeK_spec h
    refine ⟨q, top, hq, Ext.refl _, step_val fun m a hinv he => ?_⟩
    have r1 := ev_rel he (x := x) (by simp [ho, Op.operands]) hp
    have r2 := ev_rel he (x := ix) (by simp [ho, Op.operands]) hp2
    generalize hv : a.eval x = v at r1
    generalize hv2 : a.eval ix = v2 at r2
    cases r1 with
    | agg _ vs e1 e2 =>
    cases r2 with
    | d _ _ hx =>
    cases hx
    have hlen : ((vs.toList.drop (n.toNat * r'.size)).take r'.size).length = ((cs.drop (n.toNat * r'.size)).take r'.size).length := by simp [e1]
    have hrp := hrel m ((vs.toList.drop (n.toNat * r'.size)).take r'.size) hlen (fun j p v hp hv => by
      have hj : j < r'.size := by
        rcases Nat.lt_or_ge j r'.size with h | h
        · exact h
        · rw [List.getElem?_eq_none (by rw [List.length_take]; omega)] at hp; cases hp
      rw [List.getElem?_take_of_lt hj, List.getElem?_drop] at hp hv
      exact e2 _ p v hp (by simpa using hv))
    refine ⟨_, ex_run (s := Instr.index r.t (.agg vs) (.int k n)) (by simp [execOp, ho, hv, hv2]) ?_, hrp⟩
    simp only [Instr.index, asIntOf, Sem.run_bind, Sem.run_pure, Result.andThen_ok, run_under hd]
    rw [if_pos ⟨h0, h1⟩]
    simp only [Sem.run_bind, run_size hi2, hs2, Result.andThen_ok, part, run_agg hd2, hty2]
    cases ha : r'.ty.isAgg with
    | true =>
      simp only [if_true, Sem.run_bind, run_size hi2, hs2, Result.andThen_ok, Sem.run_pure]
      congr 2
      apply Array.ext'
      simp [List.extract_eq_take_drop]
    | false =>
      have h1' := hone ha
      have hcl : n.toNat * r'.size + r'.size ≤ cs.length := hsub
      have hr1 : r'.size = 1 := by rw [List.length_take, List.length_drop] at h1'; omega
      have hlt : n.toNat * r'.size < vs.size := by omega
      simp only [Bool.false_eq_true, if_false, Array.getElem?_eq_getElem hlt, Sem.run_pure]
      congr 1
      have hg : ((vs.toList.drop (n.toNat * r'.size)).take r'.size)[0]? = some vs[n.toNat * r'.size] := by
        rw [List.getElem?_take_of_lt (by omega), List.getElem?_drop, Nat.add_zero]
        simp [hlt]
      rw [List.getD, hg]; rfl
  | makeSlice t l c =>
    rw [ho] at h
    obtain ⟨p, hp, h⟩ := evK_ev h
    obtain ⟨p2, hp2, h⟩ := evK_ev h
    split at h
    case h_2 => exact h.elim
    rename_i k n k' n' h__
    clear h__
    obtain ⟨r, hr, ht_, h_⟩ := lookK_spec h
    clear h
    subst ht_
    obtain ⟨ii, z, d, hii, hs, hb, hz, hzz, hd, hty⟩ := row_info hC hr
    split at h_
    case h_2 => exact h_.elim
    rename_i e hty0
    obtain ⟨r', hr', ht_, h⟩ := lookK_spec h_
    clear h_
    subst ht_
    obtain ⟨i2, z2, d2, hi2, hs2, hb2, hz2, hzz2, hd2, hty2⟩ := row_info hC hr'
    rw [hty0] at hty
    obtain ⟨e, rfl⟩ : ∃ e, d = .slice e := by cases d <;> simp [tyOf] at hty <;> exact ⟨_, rfl⟩
    simp only [tyOf, Ty.slice.injEq] at hty
    subst hty
    simp only [ifK] at h
    split at h
    case h_2 => exact h.elim
    rename_i hpos
    have hpos : 0 < r'.size := by simpa [Nat.blt_eq] using hpos
    obtain ⟨zs, h, hzl, hzr⟩ := dvsK_spec h
    rw [lenK_spec] at h
    split at h
    case h_2 => exact h.elim
    rename_i hzs
    have hzs := Nat.eq_of_beq_eq_true hzs
    obtain ⟨rfl, h0, hby, h63, h⟩ := h
    unfold newK at h
    rw [lenK_spec, snocK_spec] at h
    have hzc : z2.cells.size = r'.size := by rw [← hzs, hzl, ← hzz2]; simp
    refine ⟨_, _, h, Ext.app _ _, step_new rfl fun m a hinv he => ?_⟩
    have r1 := ev_rel he (x := l) (by simp [ho, Op.operands]) hp
    have r2 := ev_rel he (x := c) (by simp [ho, Op.operands]) hp2
    generalize hv : a.eval l = v at r1
    generalize hv2 : a.eval c = v2 at r2
    cases r1 with
    | d _ _ hx =>
    cases hx
    cases r2 with
    | d _ _ hx =>
    cases hx
    have hrun := run_make (P := C.P) (w := m.w) r.t r'.t i2 z2 hd hi2 hz2 k k' n n h0 (Int.le_refl _) (by rw [hb2]; exact hby) h63
    refine ⟨_, _, _, .slice (some ⟨m.w.heap.size, 0, none⟩) n.toNat n.toNat, ex_run (s := Instr.makeSlice r.t (.int k n) (.int k' n)) (by simp [execOp, ho, hv, hv2]) hrun, rfl, fun hfree => ⟨fun u hu => ?_, .row _ _ _ n.toNat n.toNat _ (by simp [M.new]) (Nat.le_refl _) (Nat.le_refl _)⟩⟩
    simp only [M.new, and_self, if_true, Option.some.injEq] at hu
    subst hu
    refine ⟨hpos, fun x hx => by rw [(List.mem_replicate.1 hx).2, hzs], (madeCells z2.cells (n.toNat * i2.size)).toList, ?_, fun i x j y u hx hy hu => ?_⟩
    · rw [List.length_replicate]
      exact World.ownsRow_lit m.w _ n.toNat (Nat.zero_le _) (by unfold maxLen; omega) (by rw [size_madeCells, hs2])
    · have hx' : x = zs := by have := List.mem_of_getElem? hx; exact (List.mem_replicate.1 this).2
      subst hx'
      have hj : j < r'.size := by rw [← hzs]; exact (List.getElem?_eq_some_iff.1 hy).1
      have hlt : i * r'.size + j < n.toNat * i2.size := by have := (List.getElem?_eq_some_iff.1 hu).1; simpa [size_madeCells] using this
      have huz : u = (z2.cells.toList.getD j undef) := by
        simp [madeCells, hlt, hzc] at hu
        rw [← hu]
        rw [Nat.mod_eq_of_lt hj, getElem!_pos z2.cells j (by omega)]
        simp [show j < z2.cells.size by omega]
      rw [huz]
      refine RD.keep (grow_new m _ _ _ hfree).keep (hzr m (fun j => z2.cells.toList.getD j undef) (fun j p hp => ?_) j y hy)
      rw [← hzz2, List.getElem?_map] at hp
      obtain ⟨v, hv, rfl⟩ := Option.map_eq_some_iff.1 hp
      have : z2.cells.toList.getD j undef = v := by rw [List.getD, hv]; rfl
      rw [this]
      exact rp_zero m v
  | extract x i =>
    rw [ho] at h
    obtain ⟨p, hp, h⟩ := evK_ev h
    split at h
    case h_2 => exact h.elim
    rename_i cs
    obtain ⟨q, hq, h⟩ := getK_spec.1 h
    refine ⟨q, top, h, Ext.refl _, step_val fun m a hi he => ?_⟩
    have := ev_rel he (x := x) (by simp [ho, Op.operands]) hp
    generalize hv : a.eval x = v at this
    cases this with
    | tuple _ vs h1 h2 =>
      have hlt : i < vs.size := by rw [← h1]; exact (List.getElem?_eq_some_iff.1 hq).1
      have hvi : vs[i]? = some vs[i] := Array.getElem?_eq_getElem hlt
      exact ⟨vs[i], by simp [execOp, ho, hv, Instr.extract, hvi], h2 i q _ hq hvi⟩
  | convert s d x =>
    rw [ho] at h
    obtain ⟨p, hp, h⟩ := evK_ev h
    exact conv_step hC ho hp h
  | call c => exact absurd ho (hcall c)
  | _ => rw [ho] at h; exact h.elim
end Go.Proofs.Ve

/- What the value machine says of a call is so. -/
set_option linter.all false
namespace Go.Proofs.Ve
open Go

def Lent (m : M) (bs : List Nat) (k : Nat) : Prop := ∃ i v, i ∈ bs ∧ m.ρ 0 i = some v ∧ blkOf v = some k
/-- As a callee sees it, some rows lent to it. -/
def lentM (m : M) (bs : List Nat) : M := ⟨m.w, fun l i => match l with | 0 => none | l + 1 => m.ρ l i, fun k => m.U k ∧ ¬ Lent m bs k⟩
theorem lent_ok {m : M} {bs : List Nat} (k : Nat) (h : m.ok k) : (lentM m bs).ok k := ⟨h.1, fun hu => h.2 hu.1⟩
theorem rd_lent {m : M} {bs : List Nat} {x : DV} {v : Value} (h : RD m.w m.ok x v) : RD (lentM m bs).w (lentM m bs).ok x v := h.mono fun k hk => ⟨lent_ok k hk, rfl⟩
theorem own_rd {m : M} {top : List Blk} {H : List (List Blk)} (hinv : Inv m top H) {i n c : Nat} {A : Option Addr} {e sz : Nat} {xs : List (List DV)} (hb : top[i]? = some (.row e sz xs)) {N : Nat}
    (hρ : m.ρ 0 i = some (.slice A N c)) (hn : n ≤ N) (hc : N ≤ c) {m' : M} (hw : m'.w = m.w) (hok : ∀ k, m.ok k → m'.ok k) (hg : ∀ k, blkOf (.slice A N c) = some k → ¬ m'.U k) : RD m'.w m'.ok (.sl (xs.take n)) (.slice A n c) := by
  obtain ⟨hp, hxs, flat, ho, hrd⟩ := hinv.blk 0 i _ hb _ hρ
  have hfl : flat.length = xs.length * sz := ho.1
  have hnx : N = xs.length ∧ c ≤ 9223372036854775807 ∧ (A = none → N = 0) ∧ ∀ a, A = some a → a = ⟨a.block, 0, none⟩ := by
    rcases ho.2 with ⟨h, h0⟩ | ⟨g, cap, cur, h, _, _, h1, h2, _⟩
    · simp only [Value.slice.injEq] at h
      obtain ⟨rfl, rfl, rfl⟩ := h
      exact ⟨h0.symm, by omega, (fun _ => rfl), (fun a ha => by cases ha)⟩
    · simp only [Value.slice.injEq] at h
      obtain ⟨rfl, rfl, rfl⟩ := h
      unfold maxLen at h2
      exact ⟨rfl, h2, (fun h => by cases h), (fun a ha => by cases ha; rfl)⟩
  obtain ⟨hN, hc9, hA0, hA1⟩ := hnx
  have hok' : ∀ k, m.ok k → m'.ok k ∧ m'.w.heap[k]? = m.w.heap[k]? := fun k hk => ⟨hok k hk, by rw [hw]⟩
  cases A with
  | none =>
    have h0 := hA0 rfl
    obtain rfl : n = 0 := by omega
    exact .sl sz _ none 0 c default (fun _ => undef) (by simp) (Nat.zero_le _) (by omega) (by omega) (by simp) (fun a x j y hx => by simp at hx) (fun a x j y hx => by simp at hx)
  | some ad =>
    refine .sl sz _ (some ad) n c ad (fun k => flat.getD k undef) (by rw [List.length_take]; omega) (by omega) (by omega) (fun _ => rfl) (fun x hx => hxs x (List.mem_of_mem_take hx)) (fun a x j y hx hy => ?_) (fun a x j y hx hy => ?_)
    all_goals
      have hal : a < n := by
        rcases Nat.lt_or_ge a n with h1 | h1
        · exact h1
        · rw [List.getElem?_eq_none (by rw [List.length_take]; omega)] at hx; cases hx
      have hx' : xs[a]? = some x := by rwa [List.getElem?_take_of_lt hal] at hx
      have hjl : j < sz := by rw [← hxs x (List.mem_of_getElem? hx')]; exact (List.getElem?_eq_some_iff.1 hy).1
      have hlt : a * sz + j < flat.length := by
        rw [hfl]
        have : a * sz + sz ≤ xs.length * sz := by rw [← Nat.succ_mul]; exact Nat.mul_le_mul_right _ (by omega)
        omega
      have hf : flat[a * sz + j]? = some (flat.getD (a * sz + j) undef) := by rw [List.getD_eq_getElem?_getD, List.getElem?_eq_getElem hlt]; rfl
    · refine ⟨⟨?_, hg _ rfl⟩, ?_⟩
      · rw [hw]; exact hinv.lt _ (hinv.own 0 i _ _ _ hb rfl hρ rfl)
      · rw [hw]
        have := ho.cells (g := ad.block) rfl _ _ hf
        rw [hA1 ad rfl]
        exact this
    · exact (hrd a x j y _ hx' hy hf).mono hok'

def ArgSp (top : List Blk) (p : PV) (bs : List Nat) (K : PV → List Nat → Prop) : Prop :=
  ∃ p' bs', K p' bs' ∧ (∀ i ∈ bs, i ∈ bs') ∧ (∀ i ∈ bs', i ∈ bs ∨ ∃ e sz xs, top[i]? = some (.row e sz xs)) ∧
    ∀ (m : M) (H : List (List Blk)) (bs2 : List Nat) v, (∀ i ∈ bs', i ∈ bs2) → Inv m top H → RP m p v → RP (lentM m bs2) p' v
def ArgsSp (top : List Blk) (ps : List PV) (bs : List Nat) (K : List PV → List Nat → Prop) : Prop :=
  ∃ ps' bs', K ps' bs' ∧ (∀ i ∈ bs, i ∈ bs') ∧ (∀ i ∈ bs', i ∈ bs ∨ ∃ e sz xs, top[i]? = some (.row e sz xs)) ∧
    ∀ (m : M) (H : List (List Blk)) (bs2 : List Nat), (∀ i ∈ bs', i ∈ bs2) → Inv m top H → ps'.length = ps.length ∧ ∀ (j : Nat) p' v, ps'[j]? = some p' → (∀ p, ps[j]? = some p → RP m p v) → RP (lentM m bs2) p' v
theorem argsF_spec {top : List Blk} {one : PV → List Nat → (PV → List Nat → Prop) → Prop} (ho : ∀ p bs K, one p bs K → ArgSp top p bs K) : ∀ (ps : List PV) (bs : List Nat) (K : List PV → List Nat → Prop), argsF one ps bs K → ArgsSp top ps bs K
  | [], bs, K, h => ⟨_, _, h, fun _ h => h, fun _ h => .inl h, fun m H bs2 _ _ => ⟨rfl, fun j p' v hp => by simp at hp⟩⟩
  | p :: ps, bs, K, h => by
    rw [argsF_cons] at h
    obtain ⟨p', bs1, h, h1, h2, h3⟩ := ho p bs _ h
    obtain ⟨ps', bs2, h, h4, h5, h6⟩ := argsF_spec ho ps bs1 _ h
    refine ⟨_, _, h, fun j hj => h4 j (h1 j hj), fun j hj => ?_, fun m H bs3 hs hinv => ?_⟩
    · rcases h5 j hj with h | h
      · exact h2 j h
      · exact .inr h
    · obtain ⟨l2, q2⟩ := h6 m H bs3 hs hinv
      refine ⟨by simp [l2], fun j q v hq hv => ?_⟩
      cases j with
      | zero => simp at hq; subst hq; exact h3 m H bs3 v (fun j hj => hs j (h4 j hj)) hinv (hv p rfl)
      | succ j => exact q2 j q v hq (fun p0 h0 => hv p0 h0)
theorem argF_spec {top : List Blk} : ∀ (n : Nat) (p : PV) (bs : List Nat) (K : PV → List Nat → Prop), argF top n p bs K → ArgSp top p bs K
  | 0, p, bs, K, h => h.elim
  | n + 1, .any, bs, K, h => ⟨_, _, h, fun _ h => h, fun _ h => .inl h, fun m H bs2 v _ _ _ => .any v⟩
  | n + 1, .kb b, bs, K, h => ⟨_, _, h, fun _ h => h, fun _ h => .inl h, fun m H bs2 v _ _ hv => by cases hv; exact rd_bool _⟩
  | n + 1, .ub, bs, K, h => ⟨_, _, h, fun _ h => h, fun _ h => .inl h, fun m H bs2 v _ _ hv => by cases hv; exact .ub _⟩
  | n + 1, .d x, bs, K, h => ⟨_, _, h, fun _ h => h, fun _ h => .inl h, fun m H bs2 v _ _ hv => by cases hv with | d _ _ hx => exact .d _ _ (rd_lent hx)⟩
  | n + 1, .nils, bs, K, h => ⟨_, _, h, fun _ h => h, fun _ h => .inl h, fun m H bs2 v _ _ hv => by
      cases hv
      exact .d _ _ (.sl 0 [] none 0 0 default (fun _ => undef) rfl (Nat.le_refl _) (by omega) (by omega) (by simp) (fun i x j y hx => by simp at hx) (fun i x j y hx => by simp at hx))⟩
  | n + 1, .emp, bs, K, h => ⟨_, _, h, fun _ h => h, fun _ h => .inl h, fun m H bs2 v _ _ hv => by
      cases hv with
      | emp ad => exact .d _ _ (.sl 0 [] (some ad) 0 0 default (fun _ => undef) rfl (Nat.le_refl _) (by omega) (by omega) (by simp) (fun i x j y hx => by simp at hx) (fun i x j y hx => by simp at hx))⟩
  | n + 1, .row 0 i k, bs, K, h => by
    change argOne top (argF top n) (.row 0 i k) bs K at h
    unfold argOne at h
    obtain ⟨b, hb, h⟩ := getK_spec.1 h
    split at h
    · rename_i e sz xs
      refine ⟨_, _, h, fun j hj => List.mem_cons_of_mem _ hj, fun j hj => ?_, fun m H bs2 v hs hinv hv => ?_⟩
      · cases hj with
        | head => exact .inr ⟨e, sz, xs, hb⟩
        | tail _ hj => exact .inl hj
      · cases hv with
        | row _ _ _ N c A hρ hn hc =>
          exact .d _ _ (own_rd hinv hb hρ hn hc rfl (fun k hk => lent_ok k hk) (fun k hk hu => hu.2 ⟨i, _, hs i List.mem_cons_self, hρ, hk⟩))
    · exact h.elim
  | n + 1, .row (l + 1) i k, bs, K, h => h.elim
  | n + 1, .ptr l i o, bs, K, h => ⟨_, _, h, fun _ h => h, fun _ h => .inl h, fun m H bs2 v _ _ hv => by cases hv with | ptr _ _ _ g hρ => exact .ptr _ _ _ _ hρ⟩
  | n + 1, .rptr l i sz e j, bs, K, h => h.elim
  | n + 1, .iptr cs, bs, K, h => ⟨_, _, h, fun _ h => h, fun _ h => .inl h, fun m H bs2 v _ _ hv => by
      cases hv with
      | iptr _ ad u hc hr => exact .iptr _ _ u (fun j y hy => ⟨lent_ok _ (hc j y hy).1, (hc j y hy).2⟩) (fun j y hy => rd_lent (hr j y hy))⟩
  | n + 1, .func fn fs cs, bs, K, h => by
    change argsF (argF top n) fs bs (fun fs' bs' => argsF (argF top n) cs bs' fun cs' bs'' => K (.func fn fs' cs') bs'') at h
    obtain ⟨fs', bs1, h, h1, h2, h3⟩ := argsF_spec (argF_spec n) fs bs _ h
    obtain ⟨cs', bs2, h, h4, h5, h6⟩ := argsF_spec (argF_spec n) cs bs1 _ h
    refine ⟨_, _, h, fun j hj => h4 j (h1 j hj), fun j hj => ?_, fun m H bs3 v hs hinv hv => ?_⟩
    · rcases h5 j hj with h | h
      · exact h2 j h
      · exact .inr h
    · cases hv with
      | func _ _ _ fv cv e1 e2 r1 r2 =>
        obtain ⟨l1, q1⟩ := h3 m H bs3 (fun j hj => hs j (h4 j hj)) hinv
        obtain ⟨l2, q2⟩ := h6 m H bs3 hs hinv
        exact .func _ _ _ _ _ (l1.trans e1) (l2.trans e2) (fun j p v hp hv => q1 j p v hp (fun p0 h0 => r1 j p0 v h0 hv)) (fun j p v hp hv => q2 j p v hp (fun p0 h0 => r2 j p0 v h0 hv))
  | n + 1, .agg cs, bs, K, h => by
    change argsF (argF top n) cs bs (fun cs' bs' => K (.agg cs') bs') at h
    obtain ⟨cs', bs1, h, h1, h2, h3⟩ := argsF_spec (argF_spec n) cs bs _ h
    refine ⟨_, _, h, h1, h2, fun m H bs3 v hs hinv hv => ?_⟩
    cases hv with
    | agg _ vs e1 r1 =>
      obtain ⟨l1, q1⟩ := h3 m H bs3 hs hinv
      exact .agg _ _ (l1.trans e1) (fun j p v hp hv => q1 j p v hp (fun p0 h0 => r1 j p0 v h0 hv))
  | n + 1, .tuple cs, bs, K, h => h.elim
theorem argK_spec {top : List Blk} (p : PV) (bs : List Nat) (K : PV → List Nat → Prop) (h : argK top p bs K) : ArgSp top p bs K := argF_spec 8 p bs K h
theorem argsK_spec {top : List Blk} (ps : List PV) (bs : List Nat) (K : List PV → List Nat → Prop) (h : argsK top ps bs K) : ArgsSp top ps bs K := argsF_spec (argF_spec 8) ps bs K h

theorem hideK_spec {top : List Blk} : ∀ (bs : List Nat) (K : List Blk → Prop), hideK top bs K → ∃ top1, K top1 ∧ top1.length = top.length ∧ (∀ i ∈ bs, i < top.length → top1[i]? = some .dead) ∧ ∀ i, i ∉ bs → top1[i]? = top[i]?
  | [], K, h => ⟨top, h, rfl, (fun i hi => by cases hi), (fun i _ => rfl)⟩
  | b :: bs, K, h => by
    obtain ⟨top1, h, hl, h1, h2⟩ := hideK_spec bs _ h
    obtain ⟨hlt, h⟩ := setK_spec.1 h
    refine ⟨_, h, by simp [hl], fun i hi hil => ?_, fun i hi => ?_⟩
    · by_cases hib : b = i
      · subst hib; simp [hlt]
      · rw [List.getElem?_set_ne hib]
        cases hi with
        | head => exact absurd rfl hib
        | tail _ hi => exact h1 i hi hil
    · have hib : b ≠ i := fun e => hi (e ▸ List.mem_cons_self)
      rw [List.getElem?_set_ne hib]
      exact h2 i (fun h => hi (List.mem_cons_of_mem _ h))

theorem inv_lent {m : M} {top : List Blk} {H : List (List Blk)} (hinv : Inv m top H) {bs : List Nat} (hbs : ∀ i ∈ bs, ∃ e sz xs, top[i]? = some (.row e sz xs)) {top1 : List Blk} (hl : top1.length = top.length) (h1 : ∀ i ∈ bs, i < top.length → top1[i]? = some .dead) (h2 : ∀ i, i ∉ bs → top1[i]? = top[i]?) :
    Inv (lentM m bs) [] (top1 :: H) := by
  have old : ∀ l i b, getB [] (top1 :: H) l i = some b → b.live = true → ∃ l', l = l' + 1 ∧ getB top H l' i = some b ∧ (l' = 0 → i ∉ bs) := by
    intro l i b hb hlive
    cases l with
    | zero => simp [getB] at hb
    | succ l =>
      refine ⟨l, rfl, ?_⟩
      cases l with
      | zero =>
        simp only [getB, List.getElem?_cons_zero, Option.bind_some] at hb
        by_cases hi : i ∈ bs
        · have hlt : i < top.length := by rw [← hl]; exact (List.getElem?_eq_some_iff.1 hb).1
          rw [h1 i hi hlt] at hb
          cases hb
          cases hlive
        · rw [h2 i hi] at hb
          exact ⟨hb, fun _ => hi⟩
      | succ l => exact ⟨by simpa [getB] using hb, fun h => by cases h⟩
  refine ⟨fun l i b hb => ?_, fun l i b l' i' b' v v' k hb hlb hb' hlb' hv hv' hk hk' => ?_, fun l i b v k hb hlb hv hk => ?_, fun k hk => hinv.lt k hk.1, Views.none (fun i p e c h => by simp at h)⟩
  · cases hlb : b.live with
    | false => cases b <;> simp [Blk.live] at hlb <;> exact True.intro
    | true =>
      obtain ⟨l, rfl, hb2, hnb⟩ := old l i b hb hlb
      have hbo := hinv.blk l i b hb2
      cases b with
      | dead => trivial
      | gen Y st => trivial
      | sub _ _ _ => trivial
      | box cs =>
        intro v hv
        obtain ⟨g, vs, e, rfl, hg, hs, hc⟩ := hbo v hv
        refine ⟨g, vs, e, rfl, hg, hs, fun j p u hp hu => ?_⟩
        have := hc j p u hp hu
        exact RP.keep (m := m.up l) (m' := (lentM m bs).up (l + 1)) ⟨fun l' i' v' h' => h', Nat.le_refl _, fun k hk => ⟨fun hu => hk.2 hu.1, rfl⟩⟩ this
      | row e sz xs =>
        intro v hv
        obtain ⟨h0, hx, flat, ho, hc⟩ := hbo v hv
        exact ⟨h0, hx, flat, ho, fun i x j y u hx hy hu => rd_lent (hc i x j y u hx hy hu)⟩
      | deep e sz xs => exact fun v hv => RO.mono (fun k hk => ⟨⟨hk.1, fun hu => hk.2 hu.1⟩, rfl⟩) (hbo v hv) (fun _ _ => rfl)
  · obtain ⟨l, rfl, hb2, _⟩ := old l i b hb hlb
    obtain ⟨l', rfl, hb2', _⟩ := old l' i' b' hb' hlb'
    obtain ⟨h1, h2⟩ := hinv.inj l i b l' i' b' v v' k hb2 hlb hb2' hlb' hv hv' hk hk'
    exact ⟨by rw [h1], h2⟩
  · obtain ⟨l, rfl, hb2, hnb⟩ := old l i b hb hlb
    refine ⟨hinv.own l i b v k hb2 hlb hv hk, ?_⟩
    rintro ⟨j, v', hj, hv', hk'⟩
    obtain ⟨e, sz, xs, hb3⟩ := hbs j hj
    obtain ⟨rfl, rfl⟩ := hinv.inj l i b 0 j _ v v' k hb2 hlb hb3 rfl hv hv' hk hk'
    exact hnb rfl hj

def joinM (m m2 : M) (t n : Nat) (bs : List Nat) : M :=
  ⟨m2.w, fun l i => match l with | 0 => if t ≤ i ∧ i < t + n then m2.ρ 0 (i - t) else m.ρ 0 i | l + 1 => m.ρ (l + 1) i, fun k => m2.U k ∨ Lent m bs k⟩

theorem rd_flat {w w' : World} {ok ok' : Nat → Prop} {x : DV} {v : Value} (hf : x.flat = true) (h : RD w ok x v) : RD w' ok' x v := by
  cases h with
  | bool b => exact .bool _
  | int k n => exact .int _ _
  | str s => exact .str _
  | sl sz xs A n c ad u hn hc hm hA hs hcell hr =>
    cases xs with
    | cons x xs => cases hf
    | nil => exact .sl sz [] A n c ad u hn hc hm hA hs (fun i x j y hx => by simp at hx) (fun i x j y hx => by simp at hx)

def AdoptSp (b n : Nat) (p : PV) (K : PV → Prop) : Prop :=
  ∃ q, K q ∧ ∀ (m m3 : M) v, (∀ i v, i < n → m.ρ 0 i = some v → m3.ρ 0 (b + i) = some v) → (p.flat = true ∨ ∀ x v, RD m.w m.ok x v → RD m3.w m3.ok x v) → RP m p v → RP m3 q v
def AdoptsSp (b n : Nat) (ps : List PV) (K : List PV → Prop) : Prop :=
  ∃ qs, K qs ∧ ∀ (m m3 : M), (∀ i v, i < n → m.ρ 0 i = some v → m3.ρ 0 (b + i) = some v) → (flats ps = true ∨ ∀ x v, RD m.w m.ok x v → RD m3.w m3.ok x v) →
    qs.length = ps.length ∧ ∀ (j : Nat) q v, qs[j]? = some q → (∀ p, ps[j]? = some p → RP m p v) → RP m3 q v
theorem adoptsF_spec {b n : Nat} {one : PV → (PV → Prop) → Prop} (ho : ∀ p K, one p K → AdoptSp b n p K) : ∀ (ps : List PV) (K : List PV → Prop), adoptsF one ps K → AdoptsSp b n ps K
  | [], K, h => ⟨_, h, fun m m3 _ _ => ⟨rfl, fun j q v hq => by simp at hq⟩⟩
  | p :: ps, K, h => by
    rw [adoptsF_cons] at h
    obtain ⟨q, h, hq⟩ := ho p _ h
    obtain ⟨qs, h, hqs⟩ := adoptsF_spec ho ps _ h
    refine ⟨_, h, fun m m3 hρ hf => ?_⟩
    have hf1 : p.flat = true ∨ ∀ x v, RD m.w m.ok x v → RD m3.w m3.ok x v := hf.imp (fun h => by simp [flats] at h; exact h.1) id
    have hf2 : flats ps = true ∨ ∀ x v, RD m.w m.ok x v → RD m3.w m3.ok x v := hf.imp (fun h => by simp [flats] at h; exact h.2) id
    obtain ⟨hl, hr⟩ := hqs m m3 hρ hf2
    refine ⟨by simp [hl], fun j q' v hq' hv => ?_⟩
    cases j with
    | zero => simp at hq'; subst hq'; exact hq m m3 v hρ hf1 (hv p rfl)
    | succ j => exact hr j q' v hq' (fun p0 h0 => hv p0 h0)
theorem adoptF_spec {b n : Nat} : ∀ (f : Nat) (p : PV) (K : PV → Prop), adoptF b n f p K → AdoptSp b n p K
  | 0, p, K, h => h.elim
  | f + 1, .d x, K, h => ⟨_, h, fun m m3 v _ hf hv => by
      cases hv with
      | d _ _ hx =>
        rcases hf with hf | hf
        · exact .d _ _ (rd_flat hf hx)
        · exact .d _ _ (hf _ _ hx)⟩
  | f + 1, .kb x, K, h => ⟨_, h, fun m m3 v _ hf hv => by cases hv; exact .kb _⟩
  | f + 1, .nils, K, h => ⟨_, h, fun m m3 v _ hf hv => by cases hv; exact .nils⟩
  | f + 1, .emp, K, h => ⟨_, h, fun m m3 v _ hf hv => by cases hv; exact .emp _⟩
  | f + 1, .row 0 i k, K, h => by
    change ifK (Nat.blt i n) (K (.row 0 (b + i) k)) at h
    simp only [ifK] at h
    split at h
    case h_2 => exact h.elim
    rename_i hlt
    have hlt : i < n := by simpa [Nat.blt_eq] using hlt
    exact ⟨_, h, fun m m3 v hρ _ hv => by cases hv with | row _ _ _ N c A e1 e2 e3 => exact .row _ _ _ _ _ _ (hρ i _ hlt e1) e2 e3⟩
  | f + 1, .row (l + 1) i k, K, h => h.elim
  | f + 1, .agg cs, K, h => by
    change adoptsF (adoptF b n f) cs (fun cs' => K (.agg cs')) at h
    obtain ⟨qs, h, hq⟩ := adoptsF_spec (adoptF_spec f) cs _ h
    refine ⟨_, h, fun m m3 v hρ hf hv => ?_⟩
    cases hv with
    | agg _ vs e r =>
      obtain ⟨hl, hr⟩ := hq m m3 hρ (hf.imp (fun h => h) id)
      exact .agg _ _ (hl.trans e) (fun j p v hp hv => hr j p v hp (fun p0 h0 => r j p0 v h0 hv))
  | f + 1, .tuple cs, K, h => by
    change adoptsF (adoptF b n f) cs (fun cs' => K (.tuple cs')) at h
    obtain ⟨qs, h, hq⟩ := adoptsF_spec (adoptF_spec f) cs _ h
    refine ⟨_, h, fun m m3 v hρ hf hv => ?_⟩
    cases hv with
    | tuple _ vs e r =>
      obtain ⟨hl, hr⟩ := hq m m3 hρ (hf.imp (fun h => h) id)
      exact .tuple _ _ (hl.trans e) (fun j p v hp hv => hr j p v hp (fun p0 h0 => r j p0 v h0 hv))
  | f + 1, .any, K, h => h.elim
  | f + 1, .ub, K, h => h.elim
  | f + 1, .ptr 0 i o, K, h => by
    change ifK (Nat.blt i n) (K (.ptr 0 (b + i) o)) at h
    simp only [ifK] at h
    split at h
    case h_2 => exact h.elim
    rename_i hlt
    have hlt : i < n := by simpa [Nat.blt_eq] using hlt
    exact ⟨_, h, fun m m3 v hρ _ hv => by cases hv with | ptr _ _ _ g e1 => exact .ptr _ _ _ _ (hρ i _ hlt e1)⟩
  | f + 1, .ptr (l + 1) i o, K, h => h.elim
  | f + 1, .yld Y, K, h => h.elim
  | f + 1, .rptr l i sz e j, K, h => h.elim
  | f + 1, .iptr cs, K, h => h.elim
  | f + 1, .func fn fs cs, K, h => by
    change adoptsF (adoptF b n f) fs (fun fs' => adoptsF (adoptF b n f) cs fun cs' => K (.func fn fs' cs')) at h
    obtain ⟨q1, h, h1⟩ := adoptsF_spec (adoptF_spec f) fs _ h
    obtain ⟨q2, h, h2⟩ := adoptsF_spec (adoptF_spec f) cs _ h
    refine ⟨_, h, fun m m3 v hρ hf hv => ?_⟩
    cases hv with
    | func _ _ _ fv cv e1 e2 r1 r2 =>
      have hf1 : flats fs = true ∨ ∀ x v, RD m.w m.ok x v → RD m3.w m3.ok x v := hf.imp (fun h => by simp [PV.flat] at h; exact h.1) id
      have hf2 : flats cs = true ∨ ∀ x v, RD m.w m.ok x v → RD m3.w m3.ok x v := hf.imp (fun h => by simp [PV.flat] at h; exact h.2) id
      obtain ⟨l1, s1⟩ := h1 m m3 hρ hf1
      obtain ⟨l2, s2⟩ := h2 m m3 hρ hf2
      exact .func _ _ _ _ _ (l1.trans e1) (l2.trans e2) (fun j p v hp hv => s1 j p v hp (fun p0 h0 => r1 j p0 v h0 hv)) (fun j p v hp hv => s2 j p v hp (fun p0 h0 => r2 j p0 v h0 hv))
theorem adoptK_spec {b n : Nat} (p : PV) (K : PV → Prop) (h : adoptK b n p K) : AdoptSp b n p K := adoptF_spec 8 p K h

theorem blksOf_eq : ∀ (N : List RowB), blksOf N = N.map RowB.blk
  | [] => rfl
  | r :: rs => by rw [List.map_cons, ← blksOf_eq rs]; rfl

theorem dpv_eq : ∀ (xs : List DV), dpv xs = xs.map .d
  | [] => rfl
  | x :: xs => by rw [List.map_cons, ← dpv_eq xs]; rfl
theorem rowB_cases (r : RowB) : r.blk = .box (dpv (headD r.xs)) ∨ r.blk = .row r.e r.sz r.xs := by
  unfold RowB.blk; split
  · exact .inl rfl
  · exact .inr rfl
theorem RowB.live (r : RowB) : r.blk.live = true := by rcases rowB_cases r with h | h <;> rw [h] <;> rfl
theorem RowB.shal (r : RowB) : r.blk.vd = false := by rcases rowB_cases r with h | h <;> rw [h] <;> rfl
theorem RowB.noSub (r : RowB) : r.blk.isSub = false := by rcases rowB_cases r with h | h <;> rw [h] <;> rfl
theorem RowB.noGen (r : RowB) : r.blk.isGen = false := by rcases rowB_cases r with h | h <;> rw [h] <;> rfl
theorem noGens_blks (N : List RowB) : noGens (blksOf N) = true := by
  rw [blksOf_eq]; unfold noGens
  rw [List.all_eq_true]
  intro b hb
  obtain ⟨r, _, rfl⟩ := List.mem_map.1 hb
  rw [r.noGen]; rfl
theorem headD_mem {xs : List (List DV)} {y : DV} (h : y ∈ headD xs) : ∃ x ∈ xs, y ∈ x := by
  cases xs with
  | nil => cases h
  | cons x xs => exact ⟨x, List.mem_cons_self .., h⟩
/-- what a row, or a box of plain cells, says, seen from elsewhere -/
theorem rowB_keep {m m' : M} {l i l' i' : Nat} (r : RowB) (hρ : m'.ρ l' i' = m.ρ l i) (hw : m'.w = m.w) (hrd : ∀ x ∈ r.xs, ∀ y ∈ x, ∀ v, RD m.w m.ok y v → RD m'.w m'.ok y v) (h : BlkOk m l i r.blk) : BlkOk m' l' i' r.blk := by
  rcases rowB_cases r with hb | hb <;> rw [hb] at h ⊢
  · intro v hv
    rw [hρ] at hv
    obtain ⟨g, vs, e, rfl, h1, h2, h3⟩ := h v hv
    refine ⟨g, vs, e, rfl, by rw [hw]; exact h1, h2, fun j p u hp hu => ?_⟩
    have hr := h3 j p u hp hu
    rw [dpv_eq, List.getElem?_map] at hp
    obtain ⟨y, hy, rfl⟩ := Option.map_eq_some_iff.1 hp
    obtain ⟨x, hx, hyx⟩ := headD_mem (List.mem_of_getElem? hy)
    cases hr with | d _ _ hr => exact .d _ _ (hrd x hx y hyx u hr)
  · intro v hv
    rw [hρ] at hv
    obtain ⟨h0, hx, flat, ho, hc⟩ := h v hv
    exact ⟨h0, hx, flat, by rw [hw]; exact ho, fun a x j y u hx' hy hu => hrd x (List.mem_of_getElem? hx') y (List.mem_of_getElem? hy) u (hc a x j y u hx' hy hu)⟩
theorem callK_spec {C : Cx} {H : List (List Blk)} {top : List Blk} {f : Nat} {args : List PV} {K : PV → List Blk → Prop} (h : callK C H top f args K) :
    ∃ pv top', K pv top' ∧ Ext top top' ∧ ∀ (m : M) (vs : Array Value), Inv m top H → args.length = vs.size → (∀ (j : Nat) p v, args[j]? = some p → vs[j]? = some v → RP m p v) → (∀ j, top.length ≤ j → j < top'.length → m.ρ 0 j = none) →
      Calls C.P f vs m.w fun e w' => ∃ v m', e = .returned v ∧ m'.w = w' ∧ Grow m m' ∧ (∀ l j, ¬ (l = 0 ∧ top.length ≤ j ∧ j < top'.length) → m'.ρ l j = m.ρ l j) ∧ (∀ j b u k, top.length ≤ j → top'[j]? = some b → m'.ρ 0 j = some u → b.has m'.w u k → m.w.heap.size ≤ k) ∧ Inv m' top' H ∧ RP m' pv v := by
  obtain ⟨args', bs, h, hin, hrows, hargs⟩ := argsK_spec args [] _ h
  obtain ⟨top1, h, hl1, hd1, hs1⟩ := hideK_spec bs _ h
  obtain ⟨r, N, hcall, hlent, h⟩ := h
  rw [lenK_spec, lenK_spec] at h
  obtain ⟨pv, h, hpv⟩ := adoptK_spec r _ h
  rw [appK_spec] at h
  refine ⟨pv, _, h, Ext.app _ _ (noGens_blks N), fun m vs hinv hlen hrel hfree => ?_⟩
  have hbs : ∀ i ∈ bs, ∃ e sz xs, top[i]? = some (.row e sz xs) := fun i hi => (hrows i hi).resolve_left (by simp)
  obtain ⟨hal, har⟩ := hargs m H bs (fun _ h => h) hinv
  have hinv2 := inv_lent hinv hbs hl1 hd1 hs1
  unfold CallEq at hcall
  refine (hcall (lentM m bs) vs hinv2 (fun _ => rfl) (hal.trans hlen) (fun j p v hp hv => har j p v hp (fun p0 h0 => hrel j p0 v h0 hv))).mono ?_
  rintro e w' ⟨v, m2, rfl, rfl, hg, hup, hfresh, hi2, hr⟩
  have hNl : (blksOf N).length = N.length := by rw [blksOf_eq]; simp
  rw [hNl] at hpv
  have htl : (top ++ blksOf N).length = top.length + N.length := by rw [List.length_append, hNl]
  have hsz : m.w.heap.size ≤ m2.w.heap.size := hg.size
  have lentU : ∀ k, Lent m bs k → m.U k ∧ k < m.w.heap.size := by
    rintro k ⟨i, v, hi, hv, hk⟩
    obtain ⟨e, sz, xs, hb⟩ := hbs i hi
    have := hinv.own 0 i _ v k hb rfl hv hk
    exact ⟨this, hinv.lt k this⟩
  have hU : ∀ k, k < m.w.heap.size → ((m2.U k ∨ Lent m bs k) ↔ m.U k) := by
    intro k hk
    have h1 := hg.U k hk
    simp only [lentM] at h1
    by_cases hL : Lent m bs k
    · exact ⟨fun _ => (lentU k hL).1, fun _ => .inr hL⟩
    · exact ⟨fun h => by rcases h with h | h; exact (h1.1 h).1; exact absurd h hL, fun h => .inl (h1.2 ⟨h, hL⟩)⟩
  have hG : Grow m (joinM m m2 top.length N.length bs) := by
    refine ⟨hg.os, hg.tape, hg.output, hsz, hg.heap, fun l i v hv => ?_, fun k hk => hU k hk⟩
    cases l with
    | succ l => exact hv
    | zero =>
      simp only [joinM]
      rw [if_neg]
      · exact hv
      · rintro ⟨h1, h2⟩
        rw [hfree i h1 (by rw [htl]; exact h2)] at hv
        cases hv
  have hold : ∀ l i, ¬ (l = 0 ∧ top.length ≤ i ∧ i < top.length + N.length) → (joinM m m2 top.length N.length bs).ρ l i = m.ρ l i := by
    intro l i hn
    cases l with
    | succ l => rfl
    | zero =>
      simp only [joinM]
      rw [if_neg (fun h => hn ⟨rfl, h⟩)]
  have hnew : ∀ i, i < N.length → (joinM m m2 top.length N.length bs).ρ 0 (top.length + i) = m2.ρ 0 i := by
    intro i hi
    simp only [joinM]
    rw [if_pos ⟨by omega, by omega⟩, show top.length + i - top.length = i by omega]
  have getOld : ∀ l i b, getB (top ++ blksOf N) H l i = some b → (getB top H l i = some b ∧ ¬ (l = 0 ∧ top.length ≤ i ∧ i < top.length + N.length)) ∨ (l = 0 ∧ ∃ j r, i = top.length + j ∧ j < N.length ∧ N[j]? = some r ∧ b = r.blk) := by
    intro l i b hb
    cases l with
    | succ l => exact .inl ⟨hb, fun h => by cases h.1⟩
    | zero =>
      simp only [getB] at hb ⊢
      rcases Nat.lt_or_ge i top.length with hi | hi
      · rw [List.getElem?_append_left hi] at hb
        exact .inl ⟨hb, fun h => by omega⟩
      · rw [List.getElem?_append_right hi, blksOf_eq, List.getElem?_map] at hb
        obtain ⟨r, hr, rfl⟩ := Option.map_eq_some_iff.1 hb
        exact .inr ⟨trivial, i - top.length, r, by omega, (List.getElem?_eq_some_iff.1 hr).1, hr, rfl⟩
  have hplain : bs = [] → ∀ x v, RD m2.w m2.ok x v → RD (joinM m m2 top.length N.length bs).w (joinM m m2 top.length N.length bs).ok x v := by
    rintro rfl x v hx
    refine hx.mono fun k hk => ⟨⟨hk.1, ?_⟩, rfl⟩
    rintro (h | ⟨i, _, hi, _⟩)
    · exact hk.2 h
    · cases hi
  have hflat : bs ≠ [] → r.flat = true ∧ FlatN N := by
    intro hne
    cases hbs' : bs with
    | nil => exact absurd hbs' hne
    | cons b bs' => rw [hbs'] at hlent; exact hlent
  -- a new row's block is none that was
  have newNot : ∀ j r v k, N[j]? = some r → m2.ρ 0 j = some v → r.blk.has m2.w v k → m2.U k ∧ ¬ Lent m bs k := by
    intro j r v k hr hv hk
    have hb : getB (N.map RowB.blk) (top1 :: H) 0 j = some r.blk := by simp [getB, hr]
    have hu := hi2.own 0 j _ v k hb r.live hv hk
    refine ⟨hu, fun hL => ?_⟩
    have := (hg.U k (lentU k hL).2).1 hu
    exact this.2 hL
  refine ⟨v, joinM m m2 top.length N.length bs, rfl, rfl, hG, fun l j hj => hold l j (by rwa [htl] at hj), (fun j b u k h1 h2 hu hk => by
      have h3 := (List.getElem?_eq_some_iff.1 h2).1
      rw [htl] at h3
      rw [List.getElem?_append_right h1, blksOf_eq] at h2
      exact hfresh (j - top.length) b u k h2 (by rw [← hnew (j - top.length) (by omega), show top.length + (j - top.length) = j by omega]; exact hu) hk), ⟨fun l i b hb => ?_, fun l i b l' i' b' v1 v2 k hb hlb hb' hlb' hv1 hv2 hk1 hk2 => ?_, fun l i b v1 k hb hlb hv1 hk => ?_, fun k hk => ?_, ?_⟩, hpv m2 _ v (fun i v hi hv => by rw [hnew i hi]; exact hv) (by
      by_cases hne : bs = []
      · exact .inr (hplain hne)
      · exact .inl (hflat hne).1) hr⟩
  · rcases getOld l i b hb with ⟨hb1, hn⟩ | ⟨rfl, j, r', rfl, hj, hr', rfl⟩
    · exact (hinv.blk l i b hb1).keep hG.keep (hold l i hn) (fun u k hl hu hk => hG.heap k (hinv.lt k (hinv.own l i b u k hb1 hl hu hk)))
    · refine rowB_keep r' (hnew j hj) rfl (fun x hx y hy u hu => ?_) (hi2.blk 0 j r'.blk (by simp [getB, hr']))
      by_cases hne : bs = []
      · exact hplain hne _ _ hu
      · exact rd_flat ((hflat hne).2 r' (List.mem_of_getElem? hr') x hx y hy) hu
  · rcases getOld l i b hb with ⟨hb1, hn⟩ | ⟨rfl, j, r', rfl, hj, hr', rfl⟩ <;> rcases getOld l' i' b' hb' with ⟨hb1', hn'⟩ | ⟨rfl, j', r'', rfl, hj', hr'', rfl⟩
    · rw [hold l i hn] at hv1; rw [hold l' i' hn'] at hv2
      exact hinv.inj l i b l' i' b' v1 v2 k hb1 hlb hb1' hlb' hv1 hv2 (hinv.grow hG hb1 hlb hv1 hk1) (hinv.grow hG hb1' hlb' hv2 hk2)
    · exfalso
      rw [hold l i hn] at hv1; rw [hnew j' hj'] at hv2
      obtain ⟨hu2, hnl⟩ := newNot j' r'' v2 k hr'' hv2 hk2
      have hlb2 : getB (N.map RowB.blk) (top1 :: H) (l + 1) i = some b ∨ Lent m bs k := by
        cases l with
        | succ l => exact .inl (by simpa [getB] using hb1)
        | zero =>
          by_cases hi : i ∈ bs
          · obtain ⟨_, _, _, h⟩ := hbs i hi
            rw [show top[i]? = some b from hb1] at h; cases h
            exact .inr ⟨i, v1, hi, hv1, hk1⟩
          · exact .inl (by simp only [getB, List.getElem?_cons_zero, Option.bind_some]; rw [hs1 i hi]; exact hb1)
      rcases hlb2 with hb2 | hL
      · have := hi2.inj (l + 1) i b 0 j' r''.blk v1 v2 k hb2 hlb (by simp [getB, hr'']) r''.live (by rw [hup l i]; exact hv1) hv2 hk1 hk2
        cases this.1
      · exact hnl hL
    · exfalso
      rw [hold l' i' hn'] at hv2; rw [hnew j hj] at hv1
      obtain ⟨hu2, hnl⟩ := newNot j r' v1 k hr' hv1 hk1
      have hlb2 : getB (N.map RowB.blk) (top1 :: H) (l' + 1) i' = some b' ∨ Lent m bs k := by
        cases l' with
        | succ l' => exact .inl (by simpa [getB] using hb1')
        | zero =>
          by_cases hi : i' ∈ bs
          · obtain ⟨_, _, _, h⟩ := hbs i' hi
            rw [show top[i']? = some b' from hb1'] at h; cases h
            exact .inr ⟨i', v2, hi, hv2, hk2⟩
          · exact .inl (by simp only [getB, List.getElem?_cons_zero, Option.bind_some]; rw [hs1 i' hi]; exact hb1')
      rcases hlb2 with hb2 | hL
      · have := hi2.inj (l' + 1) i' b' 0 j r'.blk v2 v1 k hb2 hlb' (by simp [getB, hr']) r'.live (by rw [hup l' i']; exact hv2) hv1 hk2 hk1
        cases this.1
      · exact hnl hL
    · rw [hnew j hj] at hv1; rw [hnew j' hj'] at hv2
      obtain ⟨_, h2⟩ := hi2.inj 0 j r'.blk 0 j' r''.blk v1 v2 k (by simp [getB, hr']) r'.live (by simp [getB, hr'']) r''.live hv1 hv2 hk1 hk2
      exact ⟨rfl, by rw [h2]⟩
  · rcases getOld l i b hb with ⟨hb1, hn⟩ | ⟨rfl, j, r', rfl, hj, hr', rfl⟩
    · rw [hold l i hn] at hv1
      have hu := hinv.own l i b v1 k hb1 hlb hv1 (hinv.grow hG hb1 hlb hv1 hk)
      exact (hU k (hinv.lt k hu)).2 hu
    · rw [hnew j hj] at hv1
      exact .inl (newNot j r' v1 k hr' hv1 hk).1
  · rcases hk with hk | hk
    · exact hi2.lt k hk
    · exact Nat.lt_of_lt_of_le (lentU k hk).2 hsz
  · refine hinv.views hG (fun i p e c v hb hv => ?_) (fun p et sz xs V hb hV => ?_)
    · rcases getOld 0 i _ hb with ⟨hb1, hn⟩ | ⟨_, j, r', _, _, _, h⟩
      · exact ⟨hb1, by rw [← hold 0 i hn]; exact hv⟩
      · have := r'.noSub; rw [← h] at this; cases this
    · rcases getOld 0 p _ hb with ⟨hb1, hn⟩ | ⟨_, j, r', rfl, _, _, h⟩
      · exact hb1
      · rw [hfree _ (by omega) (by omega)] at hV; cases hV
end Go.Proofs.Ve

/- What the value machine says of an operation is so: whole. -/
set_option linter.all false
namespace Go.Proofs.Ve
open Go

theorem plain_fun {C : Cx} (hC : C.Ok) {f : Nat} (h : C.plain f = true) : ∃ fn, C.P.funcs[f]? = some fn ∧ fn.body.isSome = true ∧ (fn.name == "runtime.NumGoroutine") = false := by
  have hf := hC.funs
  unfold funsB at hf
  rw [List.all_eq_true] at hf
  simp only [Cx.plain, Bool.and_eq_true, Bool.not_eq_true'] at h
  obtain ⟨h1, h2⟩ := h
  have := hf f (List.mem_range.2 (by simpa [Nat.blt_eq] using h1))
  rw [h2, Bool.false_or] at this
  split at this
  · rename_i fn hfn
    simp only [Bool.and_eq_true, Bool.not_eq_true'] at this
    exact ⟨fn, hfn, this.1, this.2⟩
  · cases this
theorem run_callFunc {C : Cx} (hC : C.Ok) {f : Nat} (h : C.plain f = true) (args : Array Value) (w : World) : (callFunc f args).run C.P w = .ok (.enter f args) w := by
  obtain ⟨fn, h1, h2, h3⟩ := plain_fun hC h
  obtain ⟨c, hc⟩ := Option.isSome_iff_exists.1 h2
  have h4 : ¬ fn.name = "runtime.NumGoroutine" := by simpa using h3
  simp [callFunc, h1, h4, hc]

theorem run_bytesX {P : Program} {m : M} {bs : List UInt8} {v : Value} (h : RP m (.d (.sl (bs.map fun b => [DV.int .u8 b.toNat]))) v) : (Extern.Bytes.bytesOf v).run P m.w = .ok ⟨bs.toArray⟩ m.w := by
  cases h with
  | d _ _ h =>
    cases h with
    | sl sz _ A n c ad u hn hc hm hA hsz hcell hr =>
      simp only [List.length_map] at hn
      have hb : Lib.bytesOf (bs.map fun b => (b.toNat : Int)) = bs := by simp [Lib.bytesOf, Function.comp_def]
      cases A with
      | none =>
        obtain rfl : bs = [] := by
          rcases Nat.eq_zero_or_pos n with h | h
          · exact List.eq_nil_of_length_eq_zero (by omega)
          · have := hA h; cases this
        rfl
      | some a0 =>
        have := Lib.run_loadBytesX (P := P) m.w (bs.map fun b => (b.toNat : Int)) a0 .empty (fun j x hx => by
          have h0 : 0 < n := by have := (List.getElem?_eq_some_iff.1 hx).1; simp at this; omega
          have hA' := hA h0
          cases hA'
          rw [List.getElem?_map] at hx
          obtain ⟨b, hb, rfl⟩ := Option.map_eq_some_iff.1 hx
          have h1 : (bs.map fun b => [DV.int .u8 (b.toNat : Int)])[j]? = some [DV.int .u8 (b.toNat : Int)] := by rw [List.getElem?_map, hb]; rfl
          have hs1 : sz = 1 := (hsz _ (List.mem_of_getElem? h1)).symm
          subst hs1
          have h2 := (hcell j _ 0 _ h1 rfl).2
          have h3 := hr j _ 0 _ h1 rfl
          rw [Nat.mul_one, Nat.add_zero] at h2 h3
          rw [h2]
          generalize u j = uu at h3
          cases h3; rfl)
        rw [List.length_map, hn] at this
        simp only [Extern.Bytes.bytesOf, this, hb]
        rw [show ByteArray.empty.data = #[] from rfl, Array.empty_append]

theorem growAt_mem {l : List (Nat × Nat)} {g e : Nat} (h : growAt l g = some e) : (g, e) ∈ l := by
  induction l with
  | nil => cases h
  | cons p l ih =>
    obtain ⟨f, e'⟩ := p
    change (match Nat.beq f g with | true => some e' | false => growAt l g) = some e at h
    split at h
    · rename_i hb
      have := Nat.eq_of_beq_eq_true hb
      subst this
      cases h
      exact List.mem_cons_self
    · exact List.mem_cons_of_mem _ (ih h)
theorem opK_step {C : Cx} (hC : C.Ok) {H : List (List Blk)} {o : Oper} {tm : List PV} {top : List Blk} {K : PV → List Blk → Prop} (h : opK C H o.op tm top K) :
    ∃ pv top', K pv top' ∧ Ext top top' ∧ OpStep C H o tm top pv top' := by
  by_cases hcall : ∀ c, o.op ≠ .call c
  · exact opK_plain hC hcall h
  obtain ⟨c, ho⟩ : ∃ c, o.op = .call c := by
    cases ho : o.op <;> first | exact ⟨_, rfl⟩ | exact absurd (fun c hc => by rw [ho] at hc; cases hc) hcall
  rw [ho] at h
  simp only [opK] at h
  cases hcl : c.callee with
  | invoke r n => rw [hcl] at h; exact h.elim
  | builtin b =>
    rw [hcl] at h
    cases b <;> try exact h.elim
    -- len
    dsimp only at h
    split at h
    case h_2 => exact h.elim
    rename_i x t hx ht
    have hx' : c.args = #[x] := by rw [← Array.toArray_toList (xs := c.args), hx]
    have ht' : c.argTypes = #[t] := by rw [← Array.toArray_toList (xs := c.argTypes), ht]
    obtain ⟨p, hp, h⟩ := evK_ev h
    obtain ⟨r, hr, ht_, h_⟩ := lookK_spec h
    clear h
    subst ht_
    obtain ⟨i, z, d, hi, hs, hb, hz, hzz, hd, hty⟩ := row_info hC hr
    have mx : x ∈ o.op.operands.toList := by rw [ho]; simp [Op.operands, Call.operands, hcl, hx']
    have ex : ∀ (a : Act) (w : World) (v : Value), (Builtin.len_ #[r.t] o.type #[a.eval x]).run C.P w = .ok v w → (execOp a.eval o).run C.P w = .ok (.value v) w := fun a w v hv => by
      simp [execOp, ho, resolve, hcl, hx', ht', invoke, builtin, hv]
    have sl : ∀ (A : Option Addr) (n k : Nat) (w : World), r.ty.isSlice = true → (Builtin.len_ #[r.t] o.type #[.slice A n k]).run C.P w = .ok (.int .i64 n) w := fun A n k w hsl => by
      obtain ⟨e, rfl⟩ := ty_slice hty hsl
      simp [Builtin.len_, run_under hd, goInt]
    split at h_
    · rename_i xs
      simp only [ifK] at h_
      split at h_
      case h_2 => exact h_.elim
      rename_i hsl
      refine ⟨_, top, h_, Ext.refl _, step_val fun m a hinv he => ?_⟩
      have := ev_rel he mx hp
      generalize hv : a.eval x = v at this
      cases this with
      | d _ _ hx2 =>
        cases hx2 with
        | sl sz _ A n k ad u hn hc hm hA hsz hcell hr2 =>
          exact ⟨_, ex a _ _ (by rw [hv]; exact sl A n k _ hsl), by rw [hn]; exact rd_int _ _⟩
    · simp only [ifK] at h_
      split at h_
      case h_2 => exact h_.elim
      rename_i hsl
      refine ⟨_, top, h_, Ext.refl _, step_val fun m a hinv he => ?_⟩
      have := ev_rel he mx hp
      generalize hv : a.eval x = v at this
      cases this
      exact ⟨_, ex a _ _ (by rw [hv]; exact sl none 0 0 _ hsl), rd_int _ _⟩
    · simp only [ifK] at h_
      split at h_
      case h_2 => exact h_.elim
      rename_i hsl
      refine ⟨_, top, h_, Ext.refl _, step_val fun m a hinv he => ?_⟩
      have := ev_rel he mx hp
      generalize hv : a.eval x = v at this
      cases this with
      | emp ad => exact ⟨_, ex a _ _ (by rw [hv]; exact sl (some ad) 0 0 _ hsl), rd_int _ _⟩
    · simp only [ifK] at h_
      split at h_
      case h_2 => exact h_.elim
      rename_i hsl
      refine ⟨_, top, h_, Ext.refl _, step_val fun m a hinv he => ?_⟩
      have := ev_rel he mx hp
      generalize hv : a.eval x = v at this
      cases this with
      | row _ _ n N k A h1 h2 h3 => exact ⟨_, ex a _ _ (by rw [hv]; exact sl A _ k _ hsl), rd_int _ _⟩
    · rename_i s
      cases hT : r.ty <;> rw [hT] at h_ <;> try exact h_.elim
      rw [hT] at hty
      obtain rfl : d = .string := by cases d <;> simp [tyOf] at hty <;> rfl
      refine ⟨_, top, h_, Ext.refl _, step_val fun m a hinv he => ?_⟩
      have := ev_rel he mx hp
      generalize hv : a.eval x = v at this
      cases this with
      | d _ _ hx2 =>
        cases hx2
        exact ⟨_, ex a _ _ (by rw [hv]; simp [Builtin.len_, run_under hd, goInt]), rd_int _ _⟩
    · exact h_.elim
  | value f =>
    rw [hcl] at h
    dsimp only at h
    obtain ⟨p, hp, h⟩ := evK_ev h
    split at h
    case h_2 => exact h.elim
    rename_i g fs cs
    obtain ⟨aas, h, hl, hr⟩ := evsK_spec (ys := o.op.operands.toList) h (fun x hx => by rw [ho]; simp only [Op.operands, Call.operands, hcl, Array.toList_append]; exact List.mem_append_right _ hx)
    rw [appK_spec, appK_spec] at h
    have hvals : ∀ (m : M) (a : Act) (fv cv : Array Value), EvR m a tm o.op.operands.toList → fs.length = fv.size → cs.length = cv.size → (∀ (j : Nat) p v, fs[j]? = some p → fv[j]? = some v → RP m p v) → (∀ (j : Nat) p v, cs[j]? = some p → cv[j]? = some v → RP m p v) →
        (fs ++ aas ++ cs).length = (fv ++ c.args.map a.eval ++ cv).size ∧ ∀ (j : Nat) q u, (fs ++ aas ++ cs)[j]? = some q → (fv ++ c.args.map a.eval ++ cv)[j]? = some u → RP m q u := by
      intro m a fv cv he e1 e2 r1 r2
      refine ⟨by simp [e1, e2, hl], fun j q u hq hu => ?_⟩
      have hls : fs.length = fv.size := e1
      have hl2 : aas.length = c.args.size := by rw [hl]; simp
      rcases Nat.lt_or_ge j (fs ++ aas).length with h1 | h1
      · rw [List.getElem?_append_left h1] at hq
        rw [Array.getElem?_append_left (by simp only [List.length_append, Array.size_append, Array.size_map] at h1 ⊢; omega)] at hu
        rcases Nat.lt_or_ge j fs.length with h2 | h2
        · rw [List.getElem?_append_left h2] at hq
          rw [Array.getElem?_append_left (by omega)] at hu
          exact r1 j q u hq hu
        · rw [List.getElem?_append_right h2] at hq
          rw [Array.getElem?_append_right (by omega), Array.getElem?_map, ← hls] at hu
          obtain ⟨x, hx, rfl⟩ := Option.map_eq_some_iff.1 hu
          exact hr m a he _ q x hq (by simpa using hx)
      · rw [List.getElem?_append_right h1] at hq
        rw [Array.getElem?_append_right (by simp only [List.length_append, Array.size_append, Array.size_map] at h1 ⊢; omega)] at hu
        have hsz : (fv ++ c.args.map a.eval).size = (fs ++ aas).length := by simp [e1, hl2]
        rw [hsz] at hu
        exact r2 _ q u hq hu
    have mf : f ∈ o.op.operands.toList := by rw [ho]; simp [Op.operands, Call.operands, hcl]
    split at h
    · -- the comparison of bytes
      rename_i hg
      obtain ⟨k, hk1, hk2⟩ := List.any_eq_true.1 hg
      obtain rfl : g = k := Nat.eq_of_beq_eq_true hk2
      have hcmp := hC.cmps _ hk1
      unfold cmpK at h
      split at h
      case h_2 => exact h.elim
      rename_i xs ys hargs
      obtain ⟨bs1, bs2, rfl, rfl, h⟩ := h
      refine ⟨_, top, h, Ext.refl _, step_val fun m a hinv he => ?_⟩
      have hfv := ev_rel he mf hp
      generalize hv : a.eval f = v at hfv
      cases hfv with
      | func _ _ _ fv cv e1 e2 r1 r2 =>
        obtain ⟨q1, q2⟩ := hvals m a fv cv he e1 e2 r1 r2
        rw [hargs] at q1 q2
        obtain ⟨x, y, hxy⟩ : ∃ x y, fv ++ c.args.map a.eval ++ cv = #[x, y] := by
          generalize fv ++ c.args.map a.eval ++ cv = arr at q1
          obtain ⟨l⟩ := arr
          match l, q1 with
          | [x, y], _ => exact ⟨x, y, rfl⟩
        rw [hxy] at q2
        have rx := q2 0 _ x rfl rfl
        have ry := q2 1 _ y rfl rfl
        have bx : (Extern.Bytes.bytesOf x).run C.P m.w = .ok ⟨bs1.toArray⟩ m.w := run_bytesX rx
        have by_ : (Extern.Bytes.bytesOf y).run C.P m.w = .ok ⟨bs2.toArray⟩ m.w := run_bytesX ry
        refine ⟨_, ?_, rd_int _ _⟩
        simp only [execOp, ho, resolve, hcl, hv, Deferred.ofValue, Sem.run_bind, Sem.run_pure, Result.andThen_ok, invoke]
        rw [hxy, hcmp]
        rw [show Extern.BytealgCompare.compare #[x, y] = (do let a ← Extern.Bytes.bytesOf x; let b ← Extern.Bytes.bytesOf y; pure (goInt (Extern.BytealgCompare.cmp a b))) from rfl]
        simp [bx, by_, goInt]
    simp only [ifK] at h
    split at h
    case h_2 => exact h.elim
    rename_i hpl
    split at h
    · -- slices.Grow of nil
      rename_i e hgr
      have hgo := hC.grows (g, e) (growAt_mem hgr)
      unfold growK at h
      split at h
      case h_2 => exact h.elim
      rename_i k n hargs
      simp only [ifK] at h
      split at h
      case h_2 => exact h.elim
      rename_i hke
      obtain rfl := kEq_eq hke
      obtain ⟨h0, h_⟩ := h
      obtain ⟨r, hr, ht_, h⟩ := lookK_spec h_
      clear h_
      subst ht_
      split at h
      case h_2 => exact h.elim
      rename_i hpos
      have hpos : 0 < r.size := by simpa [Nat.blt_eq] using hpos
      rw [lenK_spec] at h
      split at h
      case h_2 => exact h.elim
      rename_i hzl
      have hzl := Nat.eq_of_beq_eq_true hzl
      obtain ⟨hby, h62, hk0, hk1⟩ := h
      obtain ⟨i, z, d, hi, hs, hb, hz, hzz, hd, hty⟩ := row_info hC hr
      have hzs : z.cells.size = r.size := by rw [← hzl, ← hzz]; simp
      obtain ⟨N, rfl⟩ : ∃ N : Nat, n = N := ⟨n.toNat, by omega⟩
      have two : ∀ (m : M) (a : Act) (fv cv : Array Value), EvR m a tm o.op.operands.toList → fs.length = fv.size → cs.length = cv.size → (∀ (j : Nat) p v, fs[j]? = some p → fv[j]? = some v → RP m p v) → (∀ (j : Nat) p v, cs[j]? = some p → cv[j]? = some v → RP m p v) →
          fv ++ c.args.map a.eval ++ cv = #[.slice none 0 0, .int .i64 N] := by
        intro m a fv cv he e1 e2 r1 r2
        obtain ⟨q1, q2⟩ := hvals m a fv cv he e1 e2 r1 r2
        rw [hargs] at q1 q2
        generalize fv ++ c.args.map a.eval ++ cv = arr at q1 q2
        obtain ⟨l⟩ := arr
        match l, q1, q2 with
        | [x, y], _, q2 =>
          have rx := q2 0 _ x rfl rfl
          have ry := q2 1 _ y rfl rfl
          cases rx
          cases ry with
          | d _ _ hy => cases hy; rfl
      have enter : ∀ (m : M) (a : Act), EvR m a tm o.op.operands.toList → (execOp a.eval o).run C.P m.w = .ok (.enter g #[.slice none 0 0, .int .i64 N]) m.w := by
        intro m a he
        have hfv := ev_rel he mf hp
        generalize hv : a.eval f = v at hfv
        cases hfv with
        | func _ _ _ fv cv e1 e2 r1 r2 =>
          simp only [execOp, ho, resolve, hcl, hv, Deferred.ofValue, Sem.run_bind, Sem.run_pure, Result.andThen_ok, invoke]
          rw [two m a fv cv he e1 e2 r1 r2]
          exact run_callFunc hC hpl _ _
      rcases Nat.eq_zero_or_pos N with hN | hN
      · subst hN
        refine ⟨_, top, hk0 rfl, Ext.refl _, fun m a hinv he hfree next Q hnext => ?_⟩
        unfold Oper.wp
        rw [enter m a he]
        show Calls C.P g _ m.w _
        refine ((hgo 0 m.w).1 rfl).mono ?_
        rintro e w' ⟨rfl, rfl⟩
        exact hnext _ m (Grow.refl m) (fun _ _ _ => rfl) (fun j b u k h1 h2 => by have := (List.getElem?_eq_some_iff.1 h2).1; omega) hinv .nils
      · have h := hk1 (by omega)
        unfold newK at h
        rw [lenK_spec, snocK_spec] at h
        refine ⟨_, _, h, Ext.app _ _, fun m a hinv he hfree next Q hnext => ?_⟩
        unfold Oper.wp
        rw [enter m a he]
        show Calls C.P g _ m.w _
        refine ((hgo N m.w).2 i z hi hz (by rw [hs]; exact hpos) (by rw [hzs, hs]) hN (by rw [hb]; have h9 := hby; rw [← Int.natCast_mul] at h9; omega) (by omega)).mono ?_
        rintro e w' ⟨cp, cur, rfl, rfl, hcur, hcap⟩
        have hfr : m.ρ 0 top.length = none := hfree _ (Nat.le_refl _) (by rw [List.length_append]; exact Nat.lt_succ_self _)
        let m1 : M := ⟨m.w.drew, m.ρ, m.U⟩
        have hK : Keep m m1 := ⟨fun _ _ _ h => h, Nat.le_refl _, fun k hk => ⟨hk.2, rfl⟩⟩
        have hg1 : Grow m m1 := ⟨rfl, rfl, rfl, Nat.le_refl _, fun _ _ => rfl, fun _ _ _ h => h, fun _ _ => Iff.rfl⟩
        have hinv1 : Inv m1 top H := hinv.of_grow hg1 rfl rfl
        have hg2 := grow_new m1 (.cells cur r.t (0, 0)) top.length (.slice (some ⟨m.w.heap.size, 0, none⟩) 0 cp) hfr
        refine hnext _ (m1.new (.cells cur r.t (0, 0)) top.length (.slice (some ⟨m.w.heap.size, 0, none⟩) 0 cp)) (hg1.trans hg2) (fun l j hj => ?_) (fun j b' u' k h1 h2 hu' hk => ?_) (inv_new hinv1 hfr rfl rfl ?_) (.row _ _ _ 0 cp _ (by show (if 0 = 0 ∧ top.length = top.length then _ else _) = _; rw [if_pos ⟨rfl, rfl⟩]) (Nat.le_refl _) (Nat.zero_le _))
        · simp only [M.new]
          rw [if_neg]
          rintro ⟨rfl, rfl⟩
          exact hj ⟨rfl, Nat.le_refl _, by simp⟩
        · obtain rfl : j = top.length := by have := (List.getElem?_eq_some_iff.1 h2).1; simp at this; omega
          simp only [M.new, and_self, if_true, Option.some.injEq] at hu'
          subst hu'
          rw [List.getElem?_append_right (Nat.le_refl _), Nat.sub_self] at h2
          cases h2
          cases hk
          exact Nat.le_refl _
        · intro v hv
          simp only [M.new, and_self, if_true, Option.some.injEq] at hv
          subst hv
          refine ⟨hpos, (fun x hx => by cases hx), [], ⟨(Nat.zero_mul _).symm, .inr ⟨m.w.heap.size, cp, cur, rfl, Nat.zero_le _, ?_, Nat.zero_le _, hcap, by rw [hcur, hs], by rw [show ([] : List (List DV)).length * r.size = 0 from Nat.zero_mul _]; rfl⟩⟩, fun i x j y u hx => by simp at hx⟩
          exact heap_new m.w.drew _
    obtain ⟨pv, top', hk, hpre, hh⟩ := callK_spec h
    refine ⟨pv, top', hk, hpre, fun m a hinv he hfree next Q hnext => ?_⟩
    have hfv := ev_rel he mf hp
    generalize hv : a.eval f = v at hfv
    cases hfv with
    | func _ _ _ fv cv e1 e2 r1 r2 =>
      have hrun : (execOp a.eval o).run C.P m.w = .ok (.enter g (fv ++ c.args.map a.eval ++ cv)) m.w := by
        simp only [execOp, ho, resolve, hcl, hv, Deferred.ofValue, Sem.run_bind, Sem.run_pure, Result.andThen_ok, invoke]
        exact run_callFunc hC hpl _ _
      unfold Oper.wp
      rw [hrun]
      show Calls C.P g _ m.w _
      obtain ⟨q1, q2⟩ := hvals m a fv cv he e1 e2 r1 r2
      refine (hh m (fv ++ c.args.map a.eval ++ cv) hinv q1 q2 hfree).mono ?_
      · rintro e w' ⟨v, m', rfl, rfl, hg, hρ, hfr, hi, hr⟩
        exact hnext v m' hg hρ hfr hi hr
end Go.Proofs.Ve

/- What the value machine says of what turns memory is so: stores. -/
set_option linter.all false
namespace Go.Proofs.Ve
open Go

structure Turn (m m' : M) (top : List Blk) : Prop where
  os : m'.w.os = m.w.os
  tape : m'.w.tape = m.w.tape
  output : m'.w.output = m.w.output
  size : m.w.heap.size ≤ m'.w.heap.size
  heap : ∀ k, k < m.w.heap.size → ¬ Mine m top k → m'.w.heap[k]? = m.w.heap[k]?
  ρ : ∀ l i v, m.ρ l i = some v → m'.ρ l i = some v
  U : ∀ k, k < m.w.heap.size → (m'.U k ↔ m.U k)
theorem Turn.keep {m m' : M} {top : List Blk} {H : List (List Blk)} (h : Turn m m' top) (hi : Inv m top H) : Keep m m' :=
  ⟨h.ρ, h.size, fun k hk => ⟨fun hu => hk.2 ((h.U k hk.1).1 hu), h.heap k hk.1 (by
    rintro ⟨i, b, v, h1, h2, h3, h4⟩
    exact hk.2 (hi.own 0 i b v k h1 h2 h3 h4))⟩⟩
theorem Grow.turn {m m' : M} (h : Grow m m') (top : List Blk) : Turn m m' top := ⟨h.os, h.tape, h.output, h.size, fun k hk _ => h.heap k hk, h.ρ, h.U⟩

/-- What an operation that may turn memory comes to. -/
def ActStep (C : Cx) (H : List (List Blk)) (o : Oper) (tm : List PV) (top : List Blk) (pv : PV) (top' : List Blk) : Prop :=
  ∀ (m : M) (a : Act), Inv m top H → EvR m a tm o.op.operands.toList → (∀ j, top.length ≤ j → m.ρ 0 j = none) →
    ∀ (next : Act → World → Prop) (Q : Exit → Act → World → Prop),
      (∀ v m', Turn m m' top → (∀ l j, ¬ (l = 0 ∧ top.length ≤ j ∧ j < top'.length) → m'.ρ l j = m.ρ l j) →
        (∀ k, Mine m' top' k → m.w.heap.size ≤ k ∨ Mine m top k) → Inv m' top' H → RP m' pv v → next (a.put o.dst v) m'.w) →
      o.wp C.P a m.w next Q
theorem Mine.grow {m m' : M} {top : List Blk} {H : List (List Blk)} (hi : Inv m top H) (hg : Grow m m') (hρ : ∀ i, m'.ρ 0 i = m.ρ 0 i) {k : Nat} (h : Mine m' top k) : Mine m top k := by
  obtain ⟨j, b, v, hb, hl, hv, hk⟩ := h
  rw [hρ] at hv
  exact ⟨j, b, v, hb, hl, hv, hi.grow hg (l := 0) hb hl hv hk⟩
theorem mine_pre {m m' : M} {top top' : List Blk} {H : List (List Blk)} (hi : Inv m top H) (hg : Grow m m') (hp : top <+: top') (hρ : ∀ l j, ¬ (l = 0 ∧ top.length ≤ j ∧ j < top'.length) → m'.ρ l j = m.ρ l j)
    (hfr : ∀ j b u k, top.length ≤ j → top'[j]? = some b → m'.ρ 0 j = some u → b.has m'.w u k → m.w.heap.size ≤ k) (k : Nat) (h : Mine m' top' k) : m.w.heap.size ≤ k ∨ Mine m top k := by
  obtain ⟨j, b, v, hb, hl, hv, hk⟩ := h
  rcases Nat.lt_or_ge j top.length with hj | hj
  · rw [hρ 0 j (by omega)] at hv
    obtain ⟨t, rfl⟩ := hp
    rw [List.getElem?_append_left hj] at hb
    exact .inr ⟨j, b, v, hb, hl, hv, hi.grow hg (l := 0) hb hl hv hk⟩
  · exact .inl (hfr j b v k hj hb hv hk)
theorem OpStep.act {C : Cx} {H : List (List Blk)} {o : Oper} {tm : List PV} {top : List Blk} {pv : PV} {top' : List Blk} (h : OpStep C H o tm top pv top') (hp : top <+: top') : ActStep C H o tm top pv top' :=
  fun m a hi he hf next Q hn => h m a hi he (fun j h1 _ => hf j h1) next Q fun v m' hg hρ hfr hi' hr => hn v m' (hg.turn top) hρ (mine_pre hi hg hp hρ hfr) hi' hr

theorem getB_set_old {top : List Blk} {b : Blk} {H : List (List Blk)} {i0 l i : Nat} (h : ¬ (l = 0 ∧ i = i0)) : getB (top.set i0 b) H l i = getB top H l i := by
  cases l with
  | zero =>
    simp only [getB]
    rw [List.getElem?_set_ne (fun e => h ⟨rfl, e.symm⟩)]
  | succ l => rfl
/-- A block of the frame's is written, its name stays. -/
theorem inv_setV {m : M} {top : List Blk} {H : List (List Blk)} (hi : Inv m top H) {i0 g : Nat} {b0 b : Blk} {v0 : Value} (hb0 : top[i0]? = some b0) (hl0 : b0.live = true) (hρ : m.ρ 0 i0 = some v0) (hg : b0.has m.w v0 g) (hlive : b.live = true)
    {w' : World} (hos : w'.os = m.w.os) (htape : w'.tape = m.w.tape) (hout : w'.output = m.w.output) (hsz : w'.heap.size = m.w.heap.size) (hheap : ∀ k, k ≠ g → w'.heap[k]? = m.w.heap[k]?)
    (hhas : ∀ k, b.has w' v0 k → b0.has m.w v0 k) (hviews : Views ⟨w', m.ρ, m.U⟩ (top.set i0 b)) (hb : Keep m ⟨w', m.ρ, m.U⟩ → BlkOk ⟨w', m.ρ, m.U⟩ 0 i0 b) : Turn m ⟨w', m.ρ, m.U⟩ top ∧ Inv ⟨w', m.ρ, m.U⟩ (top.set i0 b) H ∧ ∀ k, Mine ⟨w', m.ρ, m.U⟩ (top.set i0 b) k → m.w.heap.size ≤ k ∨ Mine m top k := by
  have hT : Turn m ⟨w', m.ρ, m.U⟩ top := ⟨hos, htape, hout, Nat.le_of_eq hsz.symm, fun k _ hk => hheap k (by
    rintro rfl
    exact hk ⟨i0, b0, v0, hb0, hl0, hρ, hg⟩), fun _ _ _ h => h, fun _ _ => Iff.rfl⟩
  have hK := hT.keep hi
  have hlt : i0 < top.length := (List.getElem?_eq_some_iff.1 hb0).1
  have get : ∀ l i b', getB (top.set i0 b) H l i = some b' → (l = 0 ∧ i = i0 ∧ b' = b) ∨ (¬ (l = 0 ∧ i = i0) ∧ getB top H l i = some b') := by
    intro l i b' hb'
    by_cases h : l = 0 ∧ i = i0
    · obtain ⟨rfl, rfl⟩ := h
      simp [getB, hlt] at hb'
      exact .inl ⟨rfl, rfl, hb'.symm⟩
    · rw [getB_set_old h] at hb'
      exact .inr ⟨h, hb'⟩
  have same : ∀ l i b' v, getB top H l i = some b' → b'.live = true → m.ρ l i = some v → ¬ (l = 0 ∧ i = i0) → ∀ k, b'.has m.w v k → w'.heap[k]? = m.w.heap[k]? := fun l i b' v h1 h2 h3 hn k hk => hheap k (by
    rintro rfl
    exact hn (hi.inj l i b' 0 i0 b0 v v0 k h1 h2 hb0 hl0 h3 hρ hk hg))
  have old : ∀ l i b', getB (top.set i0 b) H l i = some b' → b'.live = true → ∃ b'', getB top H l i = some b'' ∧ b''.live = true ∧ ∀ v, m.ρ l i = some v → ∀ k, b'.has w' v k → b''.has m.w v k := by
    intro l i b' hb' hl'
    rcases get l i b' hb' with ⟨rfl, rfl, rfl⟩ | ⟨hn, h⟩
    · exact ⟨b0, hb0, hl0, fun v hv k hk => by rw [hρ] at hv; cases hv; exact hhas k hk⟩
    · exact ⟨b', h, hl', fun v hv k hk => Blk.has_back hk (same l i b' v h hl' hv hn)⟩
  refine ⟨hT, ⟨fun l i b' hb' => ?_, fun l i b1 l' i' b2 v1 v2 k h1 hl1 h2 hl2 hv1 hv2 hk1 hk2 => ?_, fun l i b1 v1 k h1 hl1 hv1 hk => ?_, fun k hk => by rw [show (⟨w', m.ρ, m.U⟩ : M).w.heap.size = m.w.heap.size from hsz]; exact hi.lt k hk, hviews⟩, fun k ⟨j, b1, v1, h1, hl1, hv1, hk⟩ => by
    obtain ⟨c1, hc1, hd1, e1⟩ := old 0 j b1 h1 hl1
    exact .inr ⟨j, c1, v1, hc1, hd1, hv1, e1 v1 hv1 k hk⟩⟩
  · rcases get l i b' hb' with ⟨rfl, rfl, rfl⟩ | ⟨hn, h⟩
    · exact hb hK
    · exact (hi.blk l i b' h).keep hK rfl (fun v k hl hv hk => same l i b' v h hl hv hn k hk)
  · obtain ⟨c1, hc1, hd1, e1⟩ := old l i b1 h1 hl1
    obtain ⟨c2, hc2, hd2, e2⟩ := old l' i' b2 h2 hl2
    exact hi.inj l i c1 l' i' c2 v1 v2 k hc1 hd1 hc2 hd2 hv1 hv2 (e1 v1 hv1 k hk1) (e2 v2 hv2 k hk2)
  · obtain ⟨c1, hc1, hd1, e1⟩ := old l i b1 h1 hl1
    exact hi.own l i c1 v1 k hc1 hd1 hv1 (e1 v1 hv1 k hk)

theorem inv_set {m : M} {top : List Blk} {H : List (List Blk)} (hi : Inv m top H) {i0 g : Nat} {b0 b : Blk} {v0 : Value} (hb0 : top[i0]? = some b0) (hl0 : b0.live = true) (hρ : m.ρ 0 i0 = some v0) (hg : b0.has m.w v0 g) (hlive : b.live = true)
    {w' : World} (hos : w'.os = m.w.os) (htape : w'.tape = m.w.tape) (hout : w'.output = m.w.output) (hsz : w'.heap.size = m.w.heap.size) (hheap : ∀ k, k ≠ g → w'.heap[k]? = m.w.heap[k]?)
    (hhas : ∀ k, b.has w' v0 k → b0.has m.w v0 k) (hvd : b.vd = false) (hb : Keep m ⟨w', m.ρ, m.U⟩ → BlkOk ⟨w', m.ρ, m.U⟩ 0 i0 b) : Turn m ⟨w', m.ρ, m.U⟩ top ∧ Inv ⟨w', m.ρ, m.U⟩ (top.set i0 b) H ∧ ∀ k, Mine ⟨w', m.ρ, m.U⟩ (top.set i0 b) k → m.w.heap.size ≤ k ∨ Mine m top k := by
  have hlt : i0 < top.length := (List.getElem?_eq_some_iff.1 hb0).1
  have get : ∀ (i : Nat) b', (top.set i0 b)[i]? = some b' → b'.vd = true → i ≠ i0 ∧ top[i]? = some b' := fun i b' h1 h2 => by
    by_cases hi0 : i0 = i
    · subst hi0; rw [List.getElem?_set_self hlt] at h1; cases h1; rw [hvd] at h2; cases h2
    · rw [List.getElem?_set_ne hi0] at h1; exact ⟨fun e => hi0 e.symm, h1⟩
  refine inv_setV hi hb0 hl0 hρ hg hlive hos htape hout hsz hheap hhas (hi.sub.of (fun i p e c v h1 h2 => ⟨(get i _ h1 rfl).2, h2⟩) (fun p V h => h) (fun p et sz xs V h1 h2 => ?_)) hb
  obtain ⟨hn, h3⟩ := get p _ h1 rfl
  refine ⟨h3, fun k hk => hheap k (fun e => ?_)⟩
  subst e
  exact hn (hi.inj 0 p _ 0 i0 b0 V v0 k h3 rfl hb0 hl0 h2 hρ (Blk.has_head hk) hg).2

theorem allCellK_spec : ∀ {cs : List PV} {K : Prop}, allCellK cs K → (∀ q ∈ cs, q.cell = true) ∧ K
  | [], K, h => ⟨fun q hq => (by cases hq), h⟩
  | c :: cs, K, h => by
    rw [allCellK_cons] at h
    split at h
    · rename_i hc
      obtain ⟨h1, h2⟩ := allCellK_spec h
      exact ⟨fun q hq => by cases hq with | head => exact hc | tail _ hq => exact h1 q hq, h2⟩
    · exact h.elim
theorem seg_get {α : Type} {l ys : List α} {o : Nat} (h : o + ys.length ≤ l.length) (k : Nat) : (l.take o ++ ys ++ l.drop (o + ys.length))[k]? = if o ≤ k ∧ k < o + ys.length then ys[k - o]? else l[k]? := by
  by_cases hk : o ≤ k ∧ k < o + ys.length
  · rw [if_pos hk, List.append_assoc, List.getElem?_append_right (by rw [List.length_take]; omega), List.length_take, Nat.min_eq_left (by omega), List.getElem?_append_left (by omega)]
  · rw [if_neg hk]
    rcases Nat.lt_or_ge k o with h1 | h1
    · rw [List.append_assoc, List.getElem?_append_left (by rw [List.length_take]; omega), List.getElem?_take_of_lt h1]
    · rw [List.getElem?_append_right (by simp; omega)]
      simp only [List.length_append, List.length_take, List.getElem?_drop]
      rw [Nat.min_eq_left (by omega), show o + ys.length + (k - (o + ys.length)) = k by omega]

/-- Cells of an element of an owned row, written. -/
def OtherIns (w : World) (sz : Nat) (xs : List (List DV)) (flat : List Value) (e c n : Nat) (k : Nat) : Prop :=
  ∃ (i : Nat) (x : List DV) (j : Nat) (y : DV) (u : Value), xs[i]? = some x ∧ x[j]? = some y ∧ flat[i * sz + j]? = some u ∧ ¬ (i = e ∧ c ≤ j ∧ j < c + n) ∧ Ins w y u k
theorem RO.put {w w' : World} {ok ok' : Nat → Prop} (hrd : ∀ x v, RD w ok x v → RD w' ok' x v) {et sz : Nat} {xs : List (List DV)} {V : Value} {flat flat' : List Value} (h0 : 0 < sz) (hs : ∀ x ∈ xs, x.length = sz)
    (hr : ∀ (i : Nat) x (j : Nat) y u, xs[i]? = some x → x[j]? = some y → flat[i * sz + j]? = some u → RO w ok y u)
    (head : ∀ (i : Nat) x (j : Nat) y u k, xs[i]? = some x → x[j]? = some y → flat[i * sz + j]? = some u → Ins w y u k → blkOf V ≠ some k)
    (sep : ∀ (i : Nat) x (j : Nat) y u (i' : Nat) x' (j' : Nat) y' u' k, xs[i]? = some x → x[j]? = some y → flat[i * sz + j]? = some u → xs[i']? = some x' → x'[j']? = some y' → flat[i' * sz + j']? = some u' → Ins w y u k → Ins w y' u' k → i = i' ∧ j = j')
    {e c : Nat} {x0 ds : List DV} (hx : xs[e]? = some x0) (hle : c + ds.length ≤ x0.length) (ho' : w'.ownsRow 0 et sz V xs.length flat')
    (hflat : ∀ k, ¬ (e * sz + c ≤ k ∧ k < e * sz + c + ds.length) → k < xs.length * sz → flat'[k]? = flat[k]?)
    (hother : ∀ k, OtherIns w sz xs flat e c ds.length k → w'.heap[k]? = w.heap[k]?)
    (hnew : ∀ (j : Nat) y u, ds[j]? = some y → flat'[e * sz + (c + j)]? = some u → RO w' ok' y u ∧ ∀ k, Ins w' y u k → blkOf V ≠ some k ∧ ¬ OtherIns w sz xs flat e c ds.length k)
    (hsep : ∀ (j : Nat) y u (j' : Nat) y' u' k, ds[j]? = some y → flat'[e * sz + (c + j)]? = some u → ds[j']? = some y' → flat'[e * sz + (c + j')]? = some u' → Ins w' y u k → Ins w' y' u' k → j = j') :
    RO w' ok' (.own et sz (xs.set e (x0.take c ++ ds ++ x0.drop (c + ds.length)))) V ∧
      ∀ k, Ins w' (.own et sz (xs.set e (x0.take c ++ ds ++ x0.drop (c + ds.length)))) V k → blkOf V = some k ∨ OtherIns w sz xs flat e c ds.length k ∨ ∃ (j : Nat) (y : DV) (u : Value), ds[j]? = some y ∧ flat'[e * sz + (c + j)]? = some u ∧ Ins w' y u k := by
  have hel : e < xs.length := (List.getElem?_eq_some_iff.1 hx).1
  have hx0l : x0.length = sz := hs x0 (List.mem_of_getElem? hx)
  have cl : ∀ (i : Nat) x (j : Nat) y u, (xs.set e (x0.take c ++ ds ++ x0.drop (c + ds.length)))[i]? = some x → x[j]? = some y → flat'[i * sz + j]? = some u →
      (i = e ∧ c ≤ j ∧ j < c + ds.length ∧ ds[j - c]? = some y ∧ flat'[e * sz + (c + (j - c))]? = some u) ∨ (¬ (i = e ∧ c ≤ j ∧ j < c + ds.length) ∧ ∃ x1, xs[i]? = some x1 ∧ x1[j]? = some y ∧ flat[i * sz + j]? = some u) := by
    intro i x j y u h1 h2 h3
    by_cases hie : i = e
    · subst hie
      rw [List.getElem?_set_self hel] at h1
      cases h1
      have hjl : j < sz := by
        have := (List.getElem?_eq_some_iff.1 h2).1
        simp at this; omega
      rw [seg_get hle] at h2
      by_cases hj : c ≤ j ∧ j < c + ds.length
      · rw [if_pos hj] at h2
        exact .inl ⟨rfl, hj.1, hj.2, h2, by rw [show c + (j - c) = j by omega]; exact h3⟩
      · rw [if_neg hj] at h2
        refine .inr ⟨fun h => hj ⟨h.2.1, h.2.2⟩, x0, hx, h2, ?_⟩
        have h4 : i * sz + sz ≤ xs.length * sz := by rw [← Nat.succ_mul]; exact Nat.mul_le_mul_right _ hel
        rw [← hflat _ (fun h => hj ⟨by omega, by omega⟩) (by omega)]; exact h3
    · rw [List.getElem?_set_ne (fun h => hie h.symm)] at h1
      have hil : i < xs.length := (List.getElem?_eq_some_iff.1 h1).1
      have hjl : j < sz := by rw [← hs x (List.mem_of_getElem? h1)]; exact (List.getElem?_eq_some_iff.1 h2).1
      have h4 : i * sz + sz ≤ xs.length * sz := by rw [← Nat.succ_mul]; exact Nat.mul_le_mul_right _ hil
      refine .inr ⟨fun h => hie h.1, x, h1, h2, ?_⟩
      rw [← hflat _ (fun h => ?_) (by omega)]
      · exact h3
      · rcases Nat.lt_or_ge i e with h5 | h5
        · have : i * sz + sz ≤ e * sz := by rw [← Nat.succ_mul]; exact Nat.mul_le_mul_right _ h5
          omega
        · have : e * sz + sz ≤ i * sz := by rw [← Nat.succ_mul]; exact Nat.mul_le_mul_right _ (by omega)
          omega
  have oth : ∀ (i : Nat) x1 (j : Nat) y u, ¬ (i = e ∧ c ≤ j ∧ j < c + ds.length) → xs[i]? = some x1 → x1[j]? = some y → flat[i * sz + j]? = some u → (∀ k, Ins w y u k → w'.heap[k]? = w.heap[k]?) :=
    fun i x1 j y u hn h1 h2 h3 k hk => hother k ⟨i, x1, j, y, u, h1, h2, h3, hn, hk⟩
  refine ⟨.own et sz _ V flat' h0 (fun x hx' => ?_) (by rw [List.length_set]; exact ho') (fun i x j y u h1 h2 h3 => ?_) (fun i x j y u k h1 h2 h3 hk => ?_) (fun i x j y u i' x' j' y' u' k h1 h2 h3 h1' h2' h3' hk hk' => ?_), fun k hk => ?_⟩
  · rcases List.mem_or_eq_of_mem_set hx' with h | h
    · exact hs x h
    · rw [h]; simp; omega
  · rcases cl i x j y u h1 h2 h3 with ⟨_, _, _, a, b⟩ | ⟨hn, x1, a1, a2, a3⟩
    · exact (hnew _ y u a b).1
    · exact (hr i x1 j y u a1 a2 a3).move hrd (oth i x1 j y u hn a1 a2 a3)
  · rcases cl i x j y u h1 h2 h3 with ⟨_, _, _, a, b⟩ | ⟨hn, x1, a1, a2, a3⟩
    · exact ((hnew _ y u a b).2 k hk).1
    · exact head i x1 j y u k a1 a2 a3 (hk.back (oth i x1 j y u hn a1 a2 a3))
  · rcases cl i x j y u h1 h2 h3 with ⟨rfl, q1, q2, a, b⟩ | ⟨hn, x1, a1, a2, a3⟩ <;> rcases cl i' x' j' y' u' h1' h2' h3' with ⟨rfl, q1', q2', a', b'⟩ | ⟨hn', x1', a1', a2', a3'⟩
    · have := hsep _ y u _ y' u' k a b a' b' hk hk'
      exact ⟨rfl, by omega⟩
    · exact absurd ⟨i', x1', j', y', u', a1', a2', a3', hn', hk'.back (oth i' x1' j' y' u' hn' a1' a2' a3')⟩ ((hnew _ y u a b).2 k hk).2
    · exact absurd ⟨i, x1, j, y, u, a1, a2, a3, hn, hk.back (oth i x1 j y u hn a1 a2 a3)⟩ ((hnew _ y' u' a' b').2 k hk').2
    · exact sep i x1 j y u i' x1' j' y' u' k a1 a2 a3 a1' a2' a3' (hk.back (oth i x1 j y u hn a1 a2 a3)) (hk'.back (oth i' x1' j' y' u' hn' a1' a2' a3'))
  · cases hk with
    | head _ _ _ _ _ h => exact .inl h
    | cell _ _ _ _ _ flat2 i x j y u ho2 h1 h2 h3 h4 =>
      rw [List.length_set] at ho2
      rw [ownsRow_inj ho2 ho'] at h3
      rcases cl i x j y u h1 h2 h3 with ⟨_, _, _, a, b⟩ | ⟨hn, x1, a1, a2, a3⟩
      · exact .inr (.inr ⟨_, y, u, a, b, h4⟩)
      · exact .inr (.inl ⟨i, x1, j, y, u, a1, a2, a3, hn, h4.back (oth i x1 j y u hn a1 a2 a3)⟩)
theorem store_step0 {C : Cx} (hC : C.Ok) {H : List (List Blk)} {o : Oper} {t : Nat} {x y : Operand} (ho : o.op = .store t x y) {tm : List PV} {top : List Blk} {p q : PV} (hp : ev? tm x = some p) (hq : ev? tm y = some q) {K : List Blk → Prop}
    (h : storeK0 C top t p q K) : ∃ top', K top' ∧ top'.length = top.length ∧ GenLe top top' ∧ ActStep C H o tm top .any top' := by
  have mx : x ∈ o.op.operands.toList := by simp [ho, Op.operands]
  have my : y ∈ o.op.operands.toList := by simp [ho, Op.operands]
  obtain ⟨r, hr, ht_, h_⟩ := lookK_spec h
  clear h
  subst ht_
  obtain ⟨ii, z, d, hii, hs, hb, hz, hzz, hd, hty⟩ := row_info hC hr
  obtain ⟨cs, h, hcell, hcs⟩ := cells_rel h_
  obtain ⟨_, h⟩ := allCellK_spec h
  rw [lenK_spec] at h
  simp only [ifK] at h
  split at h
  case h_2 => exact h.elim
  rename_i hn
  have hn := Nat.eq_of_beq_eq_true hn
  -- the run
  have run : ∀ (m : M) (a : Act) (g o' : Nat) (cur : Array Value) (e : Nat), a.eval x = .pointer (some ⟨g, o', none⟩) → RP m q (a.eval y) → m.w.heap[g]? = some (.cells cur e (0, 0)) → o' + r.size ≤ cur.size →
      (execOp a.eval o).run C.P m.w = .ok .skip (m.w.setRow g (cur.toList.take o' ++ (a.eval y).cells.toList ++ cur.toList.drop (o' + (a.eval y).cells.toList.length)).toArray) := by
    intro m a g o' cur e hv hrq hg hle
    obtain ⟨hsz, hrel⟩ := hcs m _ hrq
    have h1 : ∀ u ∈ (a.eval y).cells.toList, u.oneCell' = true := by
      intro u hu
      obtain ⟨j, hj⟩ := List.mem_iff_getElem?.1 hu
      have hjl : j < cs.length := by rw [← hsz]; simpa using (List.getElem?_eq_some_iff.1 hj).1
      exact (hrel j _ u (List.getElem?_eq_getElem hjl) (by simpa using hj)).one (hcell _ (List.getElem_mem _))
    have := run_storeCells_at (P := C.P) g o' e (a.eval y).cells.toList 0 cur m.w hg (by simp [hsz]; omega) h1
    simp only [execOp, ho, Instr.storeAt, Instr.sureAddr, hv, storeVar, Sem.run_bind, Sem.run_pure, Result.andThen_ok, run_size hii, hs]
    rw [if_neg (by omega)]
    simp only [this, Result.andThen_ok, Nat.add_zero]
  cases p with
  | ptr l i o' =>
    cases l with
    | succ l => exact h.elim
    | zero =>
      obtain ⟨b, hb0, h⟩ := getK_spec.1 h
      cases b with
      | box bs =>
        obtain ⟨hle, h⟩ := putK_spec.1 h
        obtain ⟨hlt, h⟩ := setK_spec.1 h
        refine ⟨_, h, by simp, GenLe.set hb0 rfl rfl, fun m a hi he hf next Q hnext => ?_⟩
        have hpx := ev_rel he mx hp
        have hqy := ev_rel he my hq
        generalize hv : a.eval x = v at hpx
        cases hpx with
        | ptr _ _ _ g hρ =>
          obtain ⟨g', vs, e, hg', hg, hs2, hrel0⟩ := hi.blk 0 i _ hb0 _ hρ
          cases hg'
          obtain ⟨hsz, hrel⟩ := hcs m _ hqy
          have hr0 := run m a g o' vs e hv hqy hg (by omega)
          have hcl : (a.eval y).cells.toList.length = cs.length := by rw [Array.length_toList]; exact hsz
          have hvl : vs.toList.length = bs.length := by rw [Array.length_toList]; exact hs2
          unfold Oper.wp
          rw [hr0]
          have hset := inv_set hi hb0 rfl hρ rfl (b := .box (bs.take o' ++ cs ++ bs.drop (o' + cs.length))) rfl
            (w' := m.w.setRow g (vs.toList.take o' ++ (a.eval y).cells.toList ++ vs.toList.drop (o' + (a.eval y).cells.toList.length)).toArray) rfl rfl rfl (by simp) (fun k hk => setRow_other _ _ _ _ hk) (fun k hk => hk) rfl (fun hK => by
              intro v' hv'
              rw [show (⟨_, m.ρ, m.U⟩ : M).ρ 0 i = m.ρ 0 i from rfl, hρ] at hv'
              cases hv'
              refine ⟨g, _, e, rfl, setRow_heap _ _ _ _ _ _ hg, ?_, fun j p u hp hu => ?_⟩
              · simp [hsz]; omega
              · rw [seg_get hle] at hp
                simp only [List.getElem?_toArray] at hu
                rw [seg_get (by rw [hcl, hvl]; exact hle), hcl] at hu
                split at hp
                · rename_i hjj
                  rw [if_pos hjj] at hu
                  exact (hrel _ p u hp (by simpa using hu)).keep hK
                · rename_i hjj
                  rw [if_neg hjj] at hu
                  exact (hrel0 j p u hp (by simpa using hu)).keep (hK.up 0))
          exact hnext _ _ hset.1 (fun _ _ _ => rfl) hset.2.2 hset.2.1 (.any _)
      | dead => exact h.elim
      | gen Y st => exact h.elim
      | row e sz xs => exact h.elim
      | deep _ _ _ => exact h.elim
      | sub _ _ _ => exact h.elim
  | rptr l i sz e j =>
    cases l with
    | succ l => exact h.elim
    | zero =>
      obtain ⟨b, hb0, h⟩ := getK_spec.1 h
      cases b with
      | row t' sz' xs =>
        simp only at h
        split at h
        case h_2 => exact h.elim
        rename_i hszz
        have h9 := h
        clear h
        obtain rfl := Nat.eq_of_beq_eq_true hszz
        obtain ⟨ds, h9, hdl, hds⟩ := dvsK_spec h9
        obtain ⟨x0, hx0, h9⟩ := h9
        obtain ⟨hle, h9⟩ := putK_spec.1 h9
        obtain ⟨hlt, h9⟩ := setK_spec.1 h9
        refine ⟨_, h9, by simp, GenLe.set hb0 rfl rfl, fun m a hi he hf next Q hnext => ?_⟩
        have hpx := ev_rel he mx hp
        have hqy := ev_rel he my hq
        generalize hv : a.eval x = v at hpx
        cases hpx with
        | rptr _ _ _ _ _ g N c hρ =>
          obtain ⟨hp0, hxs, flat, hown, hrel0⟩ := hi.blk 0 i _ hb0 _ hρ
          obtain ⟨hsz, hrel⟩ := hcs m _ hqy
          have hcl : (a.eval y).cells.toList.length = cs.length := by rw [Array.length_toList]; exact hsz
          have hel : e < xs.length := (List.getElem?_eq_some_iff.1 hx0).1
          have hxl : x0.length = sz' := hxs x0 (List.mem_of_getElem? hx0)
          obtain ⟨hfl, hform⟩ := hown
          rcases hform with ⟨h1, _⟩ | ⟨g', cap, cur, h1, hbase, hg, hcap, hmax, hcur, htake⟩
          · cases h1
          · simp only [Value.slice.injEq, Option.some.injEq, Addr.mk.injEq] at h1
            obtain ⟨⟨rfl, _⟩, rfl, rfl⟩ := h1
            have hee : e * sz' + sz' ≤ xs.length * sz' := by rw [← Nat.succ_mul]; exact Nat.mul_le_mul_right _ hel
            have hcc : xs.length * sz' ≤ c * sz' := Nat.mul_le_mul_right _ hcap
            have hcurl : cur.toList.length = c * sz' := by rw [Array.length_toList]; exact hcur
            have hr0 := run m a g (e * sz' + j) cur t' hv hqy hg (by omega)
            unfold Oper.wp
            rw [hr0]
            have hset := inv_set hi hb0 rfl hρ rfl (b := .row t' sz' (xs.set e (x0.take j ++ ds ++ x0.drop (j + ds.length)))) rfl
              (w' := m.w.setRow g (cur.toList.take (e * sz' + j) ++ (a.eval y).cells.toList ++ cur.toList.drop (e * sz' + j + (a.eval y).cells.toList.length)).toArray) rfl rfl rfl (by simp) (fun k hk => setRow_other _ _ _ _ hk) (fun k hk => hk) rfl (fun hK => by
                intro v' hv'
                rw [show (⟨_, m.ρ, m.U⟩ : M).ρ 0 i = m.ρ 0 i from rfl, hρ] at hv'
                cases hv'
                refine ⟨hp0, fun x1 hx1 => ?_, (cur.toList.take (e * sz' + j) ++ (a.eval y).cells.toList ++ cur.toList.drop (e * sz' + j + (a.eval y).cells.toList.length)).take (xs.length * sz'), ⟨?_, .inr ⟨g, c, _, by rw [List.length_set], Nat.zero_le _, setRow_heap _ _ _ _ _ _ hg, by simpa using hcap, hmax, ?_, ?_⟩⟩, fun i1 x1 j1 y1 u1 hx1 hy1 hu1 => ?_⟩
                · rcases List.mem_or_eq_of_mem_set hx1 with h2 | h2
                  · exact hxs x1 h2
                  · rw [h2]; simp; omega
                · rw [List.length_take]; simp [hsz]; omega
                · simp [hsz]; omega
                · simp
                · have hi1 : i1 < xs.length := by simpa using (List.getElem?_eq_some_iff.1 hx1).1
                  have hx1l : x1.length = sz' := by
                    rcases List.mem_or_eq_of_mem_set (List.mem_of_getElem? hx1) with h2 | h2
                    · exact hxs x1 h2
                    · rw [h2]; simp; omega
                  have hj1 : j1 < sz' := by rw [← hx1l]; exact (List.getElem?_eq_some_iff.1 hy1).1
                  have hpos : i1 * sz' + j1 < xs.length * sz' := by
                    have : i1 * sz' + sz' ≤ xs.length * sz' := by rw [← Nat.succ_mul]; exact Nat.mul_le_mul_right _ hi1
                    omega
                  rw [List.getElem?_take_of_lt hpos, seg_get (by rw [hcl, hcurl]; omega), hcl] at hu1
                  have hfe : ∀ k, k < xs.length * sz' → flat[k]? = cur[k]? := fun k hk => by rw [← htake, List.getElem?_take_of_lt hk]; simp
                  by_cases hie : i1 = e
                  · subst hie
                    have hx1' : x1 = x0.take j ++ ds ++ x0.drop (j + ds.length) := by
                      rw [List.getElem?_set_self hi1] at hx1; cases hx1; rfl
                    rw [hx1', seg_get hle] at hy1
                    by_cases hjj : j ≤ j1 ∧ j1 < j + ds.length
                    · rw [if_pos hjj] at hy1
                      rw [if_pos (by omega), show i1 * sz' + j1 - (i1 * sz' + j) = j1 - j by omega] at hu1
                      have hu2 : ((a.eval y).cells[j1 - j]?).getD undef = u1 := by
                        rw [show (a.eval y).cells[j1 - j]? = some u1 by simpa using hu1]; rfl
                      have := hds m (fun k => ((a.eval y).cells[k]?).getD undef) (fun k p' hp' => by
                        have hkl : k < cs.length := (List.getElem?_eq_some_iff.1 hp').1
                        have hk2 : (a.eval y).cells[k]? = some ((a.eval y).cells[k]'(by omega)) := Array.getElem?_eq_getElem (by omega)
                        rw [hk2]
                        exact hrel k p' _ hp' hk2) (j1 - j) y1 hy1
                      simp only [hu2] at this
                      exact this.keep hK
                    · rw [if_neg hjj] at hy1
                      rw [if_neg (by omega)] at hu1
                      refine (hrel0 i1 x0 j1 y1 u1 hx0 hy1 ?_).keep hK
                      rw [hfe _ hpos]; simpa using hu1
                  · rw [List.getElem?_set_ne (Ne.symm hie)] at hx1
                    have hne : ¬ (e * sz' + j ≤ i1 * sz' + j1 ∧ i1 * sz' + j1 < e * sz' + j + cs.length) := by
                      rintro ⟨h3, h4⟩
                      rcases Nat.lt_or_ge i1 e with h5 | h5
                      · have : i1 * sz' + sz' ≤ e * sz' := by rw [← Nat.succ_mul]; exact Nat.mul_le_mul_right _ h5
                        omega
                      · have : e * sz' + sz' ≤ i1 * sz' := by rw [← Nat.succ_mul]; exact Nat.mul_le_mul_right _ (by omega)
                        omega
                    rw [if_neg hne] at hu1
                    refine (hrel0 i1 x1 j1 y1 u1 hx1 hy1 ?_).keep hK
                    rw [hfe _ hpos]; simpa using hu1)
            exact hnext _ _ hset.1 (fun _ _ _ => rfl) hset.2.2 hset.2.1 (.any _)
      | dead => exact h.elim
      | gen Y st => exact h.elim
      | box cs => exact h.elim
      | deep _ _ _ => exact h.elim
      | sub p' e' c' =>
        obtain ⟨b', hb', h⟩ := getK_spec.1 h
        cases b' with
        | deep t0 sz0 xs0 =>
          obtain ⟨x00, hx00, h⟩ := h
          obtain ⟨y0, hy0, h⟩ := getK_spec.1 h
          cases y0 with
          | own e2 sz2 ys2 =>
            simp only at h
            split at h
            case h_2 => exact h.elim
            rename_i hszz
            have h9 := h
            clear h
            obtain rfl := Nat.eq_of_beq_eq_true hszz
            obtain ⟨ds, h9, hdl, hds⟩ := dvsK_spec h9
            obtain ⟨x1, hx1, h9⟩ := h9
            obtain ⟨hle, h9⟩ := putK_spec.1 h9
            obtain ⟨hle0, h9⟩ := putK_spec.1 h9
            obtain ⟨hlt, h9⟩ := setK_spec.1 h9
            refine ⟨_, h9, by simp, GenLe.set hb' rfl rfl, fun m a hi he hf next Q hnext => ?_⟩
            have hpx := ev_rel he mx hp
            have hqy := ev_rel he my hq
            generalize hv : a.eval x = v at hpx
            cases hpx with
            | rptr _ _ _ _ _ g N c hρ =>
              obtain ⟨V, flat0, hV, ho0, hf0, hro0, hro⟩ := hi.at hb0 hb' hx00 hy0 hρ
              obtain ⟨flat0', z0, s0, ho0', r0, hd0, sp0⟩ := hro0.parts
              obtain rfl := ownsRow_inj ho0 ho0'
              obtain ⟨flat, z2, s2, hown, r2, hd2, sp2⟩ := hro.parts
              obtain ⟨hsz, hrel⟩ := hcs m _ hqy
              have hcl : (a.eval y).cells.toList.length = cs.length := by rw [Array.length_toList]; exact hsz
              have hel : e < ys2.length := (List.getElem?_eq_some_iff.1 hx1).1
              have hxl : x1.length = sz2 := s2 x1 (List.mem_of_getElem? hx1)
              have hins : Ins m.w (.own e2 sz2 ys2) (.slice (some ⟨g, 0, none⟩) N c) g := .head _ _ _ _ _ rfl
              have hgP : (Blk.deep t0 sz0 xs0).has m.w V g := .cell _ _ _ _ _ flat0 e' x00 c' _ _ ho0 hx00 hy0 hf0 hins
              have hgV : blkOf V ≠ some g := hd0 e' x00 c' _ _ g hx00 hy0 hf0 hins
              obtain ⟨hfl, hform⟩ := hown
              rcases hform with ⟨h1, _⟩ | ⟨g', cap, cur, h1, hbase, hg, hcap, hmax, hcur, htake⟩
              · cases h1
              · simp only [Value.slice.injEq, Option.some.injEq, Addr.mk.injEq] at h1
                obtain ⟨⟨rfl, _⟩, rfl, rfl⟩ := h1
                have hee : e * sz2 + sz2 ≤ ys2.length * sz2 := by rw [← Nat.succ_mul]; exact Nat.mul_le_mul_right _ hel
                have hcc : ys2.length * sz2 ≤ c * sz2 := Nat.mul_le_mul_right _ hcap
                have hcurl : cur.toList.length = c * sz2 := by rw [Array.length_toList]; exact hcur
                have hr0 := run m a g (e * sz2 + j) cur e2 hv hqy hg (by omega)
                unfold Oper.wp
                rw [hr0]
                generalize hcells : cur.toList.take (e * sz2 + j) ++ (a.eval y).cells.toList ++ cur.toList.drop (e * sz2 + j + (a.eval y).cells.toList.length) = cells
                have hcel : ∀ k, cells[k]? = if e * sz2 + j ≤ k ∧ k < e * sz2 + j + cs.length then (a.eval y).cells.toList[k - (e * sz2 + j)]? else cur.toList[k]? := fun k => by
                  rw [← hcells, seg_get (by rw [hcl, hcurl]; omega), hcl]
                have hcelen : cells.length = c * sz2 := by rw [← hcells]; simp [hsz]; omega
                let w' := m.w.setRow g cells.toArray
                have hother : ∀ k, k ≠ g → w'.heap[k]? = m.w.heap[k]? := fun k hk => setRow_other _ _ _ _ hk
                have hown' : w'.ownsRow 0 e2 sz2 (.slice (some ⟨g, 0, none⟩) ys2.length c) ys2.length (cells.take (ys2.length * sz2)) := by
                  refine ⟨by rw [List.length_take]; omega, .inr ⟨g, c, cells.toArray, rfl, Nat.zero_le _, setRow_heap _ _ _ _ _ _ hg, hcap, hmax, by simp [hcelen], by simp⟩⟩
                have hrd : ∀ (hK : Keep m ⟨w', m.ρ, m.U⟩) x v, RD m.w m.ok x v → RD w' (⟨w', m.ρ, m.U⟩ : M).ok x v := fun hK x v h => h.keep hK
                have hK : Keep m ⟨w', m.ρ, m.U⟩ := ⟨fun _ _ _ h => h, by show _ ≤ (m.w.setRow g _).heap.size; simp, fun k hk => ⟨hk.2, hother k (fun e => hk.2 (e ▸ hi.own 0 p' _ V g hb' rfl hV hgP))⟩⟩
                -- the row in the cell
                have hoth2 : ∀ k, OtherIns m.w sz2 ys2 flat e j ds.length k → w'.heap[k]? = m.w.heap[k]? := fun k ⟨i1, xx, j1, yy, uu, a1, a2, a3, _, a5⟩ => hother k (fun e => by
                  have := hd2 i1 xx j1 yy uu k a1 a2 a3 a5
                  exact this (by rw [e]; rfl))
                have hinner := RO.put (ok' := (⟨w', m.ρ, m.U⟩ : M).ok) (hrd hK) z2 s2 r2 hd2 sp2 hx1 hle hown' (fun k hk hkl => by
                    rw [List.getElem?_take_of_lt hkl, hcel, if_neg (fun h => hk ⟨h.1, by rw [hdl]; exact h.2⟩), ← htake, List.getElem?_take_of_lt hkl]) hoth2 (fun k yy uu h1 h2 => by
                    have hkl : k < cs.length := by rw [← hdl]; exact (List.getElem?_eq_some_iff.1 h1).1
                    have hkk : e * sz2 + (j + k) < ys2.length * sz2 := by omega
                    rw [List.getElem?_take_of_lt hkk, hcel, if_pos ⟨by omega, by omega⟩, show e * sz2 + (j + k) - (e * sz2 + j) = k by omega] at h2
                    have h3 := hds m (fun k => ((a.eval y).cells[k]?).getD undef) (fun k p' hp' => by
                      have hk2 : (a.eval y).cells[k]? = some ((a.eval y).cells[k]'(by have := (List.getElem?_eq_some_iff.1 hp').1; omega)) := Array.getElem?_eq_getElem _
                      rw [hk2]
                      exact hrel k p' _ hp' hk2) k yy h1
                    rw [show (a.eval y).cells[k]? = some uu by simpa using h2] at h3
                    have h4 : RD w' (⟨w', m.ρ, m.U⟩ : M).ok yy uu := RD.keep hK h3
                    exact ⟨.plain _ _ h4, fun k' hk' => absurd hk' (h4.not_own k')⟩) (fun k yy uu k' yy' uu' k2 h1 h2 _ _ h5 => by
                    have hkl : k < cs.length := by rw [← hdl]; exact (List.getElem?_eq_some_iff.1 h1).1
                    have hkk : e * sz2 + (j + k) < ys2.length * sz2 := by omega
                    rw [List.getElem?_take_of_lt hkk, hcel, if_pos ⟨by omega, by omega⟩, show e * sz2 + (j + k) - (e * sz2 + j) = k by omega] at h2
                    have h3 := hds m (fun k => ((a.eval y).cells[k]?).getD undef) (fun k p' hp' => by
                      have hk2 : (a.eval y).cells[k]? = some ((a.eval y).cells[k]'(by have := (List.getElem?_eq_some_iff.1 hp').1; omega)) := Array.getElem?_eq_getElem _
                      rw [hk2]
                      exact hrel k p' _ hp' hk2) k yy h1
                    rw [show (a.eval y).cells[k]? = some uu by simpa using h2] at h3
                    have h4 : RD w' (⟨w', m.ρ, m.U⟩ : M).ok yy uu := RD.keep hK h3
                    exact absurd h5 (h4.not_own k2))
                have hinner2 : ∀ k, Ins w' (.own e2 sz2 (ys2.set e (x1.take j ++ ds ++ x1.drop (j + ds.length)))) (.slice (some ⟨g, 0, none⟩) ys2.length c) k → Ins m.w (.own e2 sz2 ys2) (.slice (some ⟨g, 0, none⟩) ys2.length c) k := fun k hk => by
                  rcases hinner.2 k hk with h | ⟨i1, xx, j1, yy, uu, a1, a2, a3, _, a5⟩ | ⟨k', yy, uu, h1, h2, h5⟩
                  · exact .head _ _ _ _ _ h
                  · exact .cell _ _ _ _ _ flat i1 xx j1 yy uu ⟨hfl, .inr ⟨g, c, cur, rfl, hbase, hg, hcap, hmax, hcur, htake⟩⟩ a1 a2 a3 a5
                  · exfalso
                    have hkl : k' < cs.length := by rw [← hdl]; exact (List.getElem?_eq_some_iff.1 h1).1
                    have hkk : e * sz2 + (j + k') < ys2.length * sz2 := by omega
                    rw [List.getElem?_take_of_lt hkk, hcel, if_pos ⟨by omega, by omega⟩, show e * sz2 + (j + k') - (e * sz2 + j) = k' by omega] at h2
                    have h3 := hds m (fun k => ((a.eval y).cells[k]?).getD undef) (fun k p' hp' => by
                      have hk2 : (a.eval y).cells[k]? = some ((a.eval y).cells[k]'(by have := (List.getElem?_eq_some_iff.1 hp').1; omega)) := Array.getElem?_eq_getElem _
                      rw [hk2]
                      exact hrel k p' _ hp' hk2) k' yy h1
                    rw [show (a.eval y).cells[k']? = some uu by simpa using h2] at h3
                    have h4 : RD w' (⟨w', m.ρ, m.U⟩ : M).ok yy uu := RD.keep hK h3
                    exact h4.not_own k h5
                -- the row that has it
                have ho0w : w'.ownsRow 0 t0 sz0 V xs0.length flat0 := ownsRow_same ho0 (fun k hk => hother k (fun e => hgV (e ▸ hk)))
                have houter := RO.put (ds := [DV.own e2 sz2 (ys2.set e (x1.take j ++ ds ++ x1.drop (j + ds.length)))]) (ok' := (⟨w', m.ρ, m.U⟩ : M).ok) (hrd hK) z0 s0 r0 hd0 sp0 hx00 hle0 ho0w (fun _ _ _ => rfl) (fun k ⟨i1, xx, j1, yy, uu, a1, a2, a3, a4, a5⟩ => hother k (fun h => by
                    subst h
                    have := sp0 i1 xx j1 yy uu e' x00 c' _ _ k a1 a2 a3 hx00 hy0 hf0 a5 hins
                    exact a4 ⟨this.1, by omega, by show j1 < c' + 1; omega⟩)) (fun k yy uu h1 h2 => by
                    cases k with
                    | succ k => simp at h1
                    | zero =>
                      simp only [List.getElem?_cons_zero, Option.some.injEq] at h1; subst h1
                      rw [Nat.add_zero, hf0] at h2; cases h2
                      refine ⟨hinner.1, fun k' hk' => ?_⟩
                      have hk1 := hinner2 k' hk'
                      refine ⟨hd0 e' x00 c' _ _ k' hx00 hy0 hf0 hk1, fun ⟨i1, xx, j1, yy, uu, a1, a2, a3, a4, a5⟩ => ?_⟩
                      have := sp0 i1 xx j1 yy uu e' x00 c' _ _ k' a1 a2 a3 hx00 hy0 hf0 a5 hk1
                      exact a4 ⟨this.1, by omega, by show j1 < c' + 1; omega⟩) (fun k yy uu k' yy' uu' k2 h1 _ h3 _ _ _ => by
                    have := (List.getElem?_eq_some_iff.1 h1).1
                    have := (List.getElem?_eq_some_iff.1 h3).1
                    simp at *; omega)
                have hset := inv_setV hi hb' rfl hV hgP (b := .deep t0 sz0 (xs0.set e' (x00.take c' ++ [DV.own e2 sz2 (ys2.set e (x1.take j ++ ds ++ x1.drop (j + ds.length)))] ++ x00.drop (c' + 1)))) rfl
                  (w' := w') rfl rfl rfl (by show (m.w.setRow g _).heap.size = _; simp) hother (fun k hk => by
                    rcases houter.2 k hk with h | ⟨i1, xx, j1, yy, uu, a1, a2, a3, _, a5⟩ | ⟨k', yy, uu, h1, h2, h5⟩
                    · exact .head _ _ _ _ _ h
                    · exact .cell _ _ _ _ _ flat0 i1 xx j1 yy uu ho0 a1 a2 a3 a5
                    · cases k' with
                      | succ k' => simp at h1
                      | zero =>
                        simp only [List.getElem?_cons_zero, Option.some.injEq] at h1; subst h1
                        rw [Nat.add_zero, hf0] at h2; cases h2
                        exact .cell _ _ _ _ _ flat0 e' x00 c' _ _ ho0 hx00 hy0 hf0 (hinner2 k h5)) ?_ (fun _ v' hv' => by
                    rw [show (⟨w', m.ρ, m.U⟩ : M).ρ 0 p' = m.ρ 0 p' from rfl, hV] at hv'
                    cases hv'
                    exact houter.1)
                · exact hnext _ _ hset.1 (fun _ _ _ => rfl) hset.2.2 hset.2.1 (.any _)
                · have hpl : p' < top.length := (List.getElem?_eq_some_iff.1 hb').1
                  intro i1 p1 e1 c1 v1 d1 d2
                  have d1' : top[i1]? = some (.sub p1 e1 c1) := by
                    by_cases hh : p' = i1
                    · subst hh; rw [List.getElem?_set_self hpl] at d1; cases d1
                    · rwa [List.getElem?_set_ne hh] at d1
                  obtain ⟨q1, V1, q2, q3⟩ := hi.sub i1 p1 e1 c1 v1 d1' d2
                  refine ⟨q1, V1, q2, fun et sz xs x e3 sz3 zs fl b1 b2 b3 b4 => ?_⟩
                  by_cases hh : p' = p1
                  · subst hh
                    rw [List.getElem?_set_self hpl] at b1
                    cases b1
                    rw [hV] at q2; cases q2
                    rw [List.length_set] at b4
                    rw [ownsRow_inj b4 ho0w]
                    have hold : ∃ e4 sz4 zs4 xo, xs0[e1]? = some xo ∧ xo[c1]? = some (.own e4 sz4 zs4) := by
                      by_cases hee1 : e' = e1
                      · subst hee1
                        rw [List.getElem?_set_self (List.getElem?_eq_some_iff.1 hx00).1] at b2
                        cases b2
                        have hg2 := seg_get (l := x00) (ys := [DV.own e2 sz2 (ys2.set e (x1.take j ++ ds ++ x1.drop (j + ds.length)))]) (o := c') hle0 c1
                        rw [show c' + ([DV.own e2 sz2 (ys2.set e (x1.take j ++ ds ++ x1.drop (j + ds.length)))] : List DV).length = c' + 1 from rfl] at hg2
                        rw [hg2] at b3
                        split at b3
                        · rename_i hc1
                          exact ⟨_, _, _, x00, hx00, by rw [show c1 = c' by omega]; exact hy0⟩
                        · exact ⟨_, _, _, x00, hx00, b3⟩
                      · rw [List.getElem?_set_ne hee1] at b2
                        exact ⟨_, _, _, x, b2, b3⟩
                    obtain ⟨e4, sz4, zs4, xo, w1, w2⟩ := hold
                    exact q3 t0 sz0 xs0 xo e4 sz4 zs4 flat0 hb' w1 w2 ho0
                  · rw [List.getElem?_set_ne hh] at b1
                    refine q3 et sz xs x e3 sz3 zs fl b1 b2 b3 (ownsRow_same b4 fun k hk => (hother k (fun h => ?_)).symm)
                    subst h
                    exact hh (hi.inj 0 p' _ 0 p1 _ V V1 k hb' rfl b1 rfl hV q2 hgP (Blk.has_head hk)).2
          | _ => exact h.elim
        | _ => exact h.elim
  | any => exact h.elim
  | kb b => exact h.elim
  | ub => exact h.elim
  | d x => exact h.elim
  | nils => exact h.elim
  | emp => exact h.elim
  | row l i n => exact h.elim
  | iptr cs => exact h.elim
  | func fn a b => exact h.elim
  | agg cs => exact h.elim
  | tuple cs => exact h.elim
  | yld Y => exact h.elim
end Go.Proofs.Ve

/- What the value machine says of what turns memory is so: rows that go into cells of a row. -/
set_option linter.all false
namespace Go.Proofs.Ve
open Go

theorem killK_spec {i : Nat} : ∀ (top : List Blk) (K : List Blk → Prop), killK i top K → ∃ top', K top' ∧ top'.length = top.length ∧
    ∀ (a : Nat) b, top'[a]? = some b → (b = .dead ∨ top[a]? = some b) ∧ (∀ e c, b ≠ .sub i e c) ∧ ∀ b0, top[a]? = some b0 → b0.isSub = false → b = b0
  | [], K, h => ⟨[], h, rfl, fun a b hb => by simp at hb⟩
  | b0 :: top, K, h => by
    rw [killK_cons] at h
    have step : ∀ b1 : Blk, killK i top (fun bs => K (b1 :: bs)) → (b1 = .dead ∨ b1 = b0) → (∀ e c, b1 ≠ .sub i e c) → (b0.isSub = false → b1 = b0) → ∃ top', K top' ∧ top'.length = (b0 :: top).length ∧
        ∀ (a : Nat) b, top'[a]? = some b → (b = .dead ∨ (b0 :: top)[a]? = some b) ∧ (∀ e c, b ≠ .sub i e c) ∧ ∀ b', (b0 :: top)[a]? = some b' → b'.isSub = false → b = b' := fun b1 h h1 h2 h3 => by
      obtain ⟨top', hk, hl, hh⟩ := killK_spec top _ h
      refine ⟨_, hk, by simp [hl], fun a b hb => ?_⟩
      cases a with
      | zero =>
        simp only [List.getElem?_cons_zero, Option.some.injEq] at hb ⊢
        subst hb
        refine ⟨?_, h2, fun b' hb' hs => ?_⟩
        · rcases h1 with h1 | h1
          · exact .inl h1
          · exact .inr h1.symm
        · subst hb'; exact h3 hs
      | succ a => simpa using hh a b (by simpa using hb)
    cases b0 with
    | sub p e c =>
      simp only at h
      split at h
      · exact step _ h (.inl rfl) (fun _ _ h => by cases h) (fun h => by cases h)
      · rename_i hb
        exact step _ h (.inr rfl) (fun _ _ h => by cases h; rw [Nat.beq_refl] at hb; cases hb) (fun _ => rfl)
    | dead => exact step _ h (.inr rfl) (fun _ _ h => by cases h) (fun _ => rfl)
    | box cs => exact step _ h (.inr rfl) (fun _ _ h => by cases h) (fun _ => rfl)
    | row a b xs => exact step _ h (.inr rfl) (fun _ _ h => by cases h) (fun _ => rfl)
    | gen Y st => exact step _ h (.inr rfl) (fun _ _ h => by cases h) (fun _ => rfl)
    | deep a b xs => exact step _ h (.inr rfl) (fun _ _ h => by cases h) (fun _ => rfl)

/-- A row, or one that owns rows, as the latter. -/
theorem row_ro {m : M} {top : List Blk} {H : List (List Blk)} (hi : Inv m top H) {j : Nat} {e sz : Nat} {ys : List (List DV)} (hb : top[j]? = some (.row e sz ys) ∨ top[j]? = some (.deep e sz ys)) {v : Value} (hv : m.ρ 0 j = some v) :
    RO m.w m.ok (.own e sz ys) v ∧ ∀ k, Ins m.w (.own e sz ys) v k → ∃ b, top[j]? = some b ∧ b.live = true ∧ b.has m.w v k := by
  rcases hb with hb | hb
  · obtain ⟨h0, hs, flat, ho, hr⟩ := hi.blk 0 j _ hb v hv
    have := row_deep (ok := m.ok) h0 hs ho hr
    exact ⟨this.1, fun k hk => ⟨_, hb, rfl, this.2 k hk⟩⟩
  · exact ⟨hi.blk 0 j _ hb v hv, fun k hk => ⟨_, hb, rfl, hk⟩⟩

theorem ownsK_spec {top : List Blk} : ∀ (cs : List PV) (js : List Nat) (K : List DV → List Nat → Prop), ownsK top cs js K → ∃ ds l, K ds l ∧ ds.length = cs.length ∧ (∀ j ∈ l, j ∉ js ∧ ∃ b, top[j]? = some b ∧ b.live = true) ∧
    ∀ (H : List (List Blk)) (m : M), Inv m top H → ∀ (f : Nat → Value), (∀ (k : Nat) p, cs[k]? = some p → RP m p (f k)) →
      (∀ (k : Nat) y, ds[k]? = some y → RO m.w m.ok y (f k) ∧ ∀ a, Ins m.w y (f k) a → ∃ j ∈ l, ∃ b v, top[j]? = some b ∧ b.live = true ∧ m.ρ 0 j = some v ∧ b.has m.w v a) ∧
      ∀ (k : Nat) y (k' : Nat) y' a, ds[k]? = some y → ds[k']? = some y' → Ins m.w y (f k) a → Ins m.w y' (f k') a → k = k'
  | [], js, K, h => ⟨[], [], h, rfl, fun j hj => (by cases hj), fun H m hi f hf => ⟨fun k y hy => by simp at hy, fun k y k' y' a hy => by simp at hy⟩⟩
  | p :: cs, js, K, h => by
    have plain : (dvK p fun x => ownsK top cs js fun ds l => K (x :: ds) l) → ∃ ds l, K ds l ∧ ds.length = (p :: cs).length ∧ (∀ j ∈ l, j ∉ js ∧ ∃ b, top[j]? = some b ∧ b.live = true) ∧
        ∀ (H : List (List Blk)) (m : M), Inv m top H → ∀ (f : Nat → Value), (∀ (k : Nat) p', (p :: cs)[k]? = some p' → RP m p' (f k)) →
          (∀ (k : Nat) y, ds[k]? = some y → RO m.w m.ok y (f k) ∧ ∀ a, Ins m.w y (f k) a → ∃ j ∈ l, ∃ b v, top[j]? = some b ∧ b.live = true ∧ m.ρ 0 j = some v ∧ b.has m.w v a) ∧
          ∀ (k : Nat) y (k' : Nat) y' a, ds[k]? = some y → ds[k']? = some y' → Ins m.w y (f k) a → Ins m.w y' (f k') a → k = k' := fun h => by
      obtain ⟨x, h, hx⟩ := dvK_spec h
      obtain ⟨ds, l, hk, hlen, hjs, hh⟩ := ownsK_spec cs js _ h
      refine ⟨_, _, hk, by simp [hlen], hjs, fun H m hi f hf => ?_⟩
      obtain ⟨h1, h2⟩ := hh H m hi (fun k => f (k + 1)) (fun k p' hp => hf (k + 1) p' (by simpa using hp))
      have h0 : RD m.w m.ok x (f 0) := hx m _ (hf 0 p rfl)
      refine ⟨fun k y hy => ?_, fun k y k' y' a hy hy' ha ha' => ?_⟩
      · cases k with
        | zero => simp at hy; subst hy; exact ⟨.plain _ _ h0, fun a ha => absurd ha (h0.not_own a)⟩
        | succ k => exact h1 k y (by simpa using hy)
      · cases k with
        | zero => simp at hy; subst hy; exact absurd ha (h0.not_own a)
        | succ k =>
          cases k' with
          | zero => simp at hy'; subst hy'; exact absurd ha' (h0.not_own a)
          | succ k' => exact congrArg (· + 1) (h2 k y k' y' a (by simpa using hy) (by simpa using hy') ha ha')
    have own : ∀ (j e sz : Nat) (ys : List (List DV)), p = .row 0 j ys.length → (top[j]? = some (.row e sz ys) ∨ top[j]? = some (.deep e sz ys)) → js.any (Nat.beq j) = false → (ownsK top cs (j :: js) fun ds l => K (.own e sz ys :: ds) (j :: l)) →
        ∃ ds l, K ds l ∧ ds.length = (p :: cs).length ∧ (∀ j ∈ l, j ∉ js ∧ ∃ b, top[j]? = some b ∧ b.live = true) ∧
        ∀ (H : List (List Blk)) (m : M), Inv m top H → ∀ (f : Nat → Value), (∀ (k : Nat) p', (p :: cs)[k]? = some p' → RP m p' (f k)) →
          (∀ (k : Nat) y, ds[k]? = some y → RO m.w m.ok y (f k) ∧ ∀ a, Ins m.w y (f k) a → ∃ j ∈ l, ∃ b v, top[j]? = some b ∧ b.live = true ∧ m.ρ 0 j = some v ∧ b.has m.w v a) ∧
          ∀ (k : Nat) y (k' : Nat) y' a, ds[k]? = some y → ds[k']? = some y' → Ins m.w y (f k) a → Ins m.w y' (f k') a → k = k' := fun j e sz ys hp hb hj h => by
      obtain ⟨ds, l, hk, hlen, hjs, hh⟩ := ownsK_spec cs (j :: js) _ h
      have hjn : j ∉ js := fun hm => by
        have : js.any (Nat.beq j) = true := List.any_eq_true.2 ⟨j, hm, Nat.beq_refl j⟩
        rw [hj] at this; cases this
      refine ⟨_, _, hk, by simp [hlen], fun j' hj' => ?_, fun H m hi f hf => ?_⟩
      · rcases List.mem_cons.1 hj' with rfl | hj'
        · refine ⟨hjn, ?_⟩
          rcases hb with hb | hb <;> exact ⟨_, hb, rfl⟩
        · exact ⟨fun hm => (hjs j' hj').1 (List.mem_cons_of_mem _ hm), (hjs j' hj').2⟩
      obtain ⟨h1, h2⟩ := hh H m hi (fun k => f (k + 1)) (fun k p' hp => hf (k + 1) p' (by simpa using hp))
      have hv : m.ρ 0 j = some (f 0) := by
        have := hf 0 p rfl
        rw [hp] at this
        generalize f 0 = v at this
        cases this with
        | row _ _ _ N c A hρ hn hc =>
          have hN : N = ys.length := by
            obtain ⟨hro, _⟩ := row_ro hi hb hρ
            obtain ⟨flat, _, _, ho, _⟩ := hro.parts
            exact (owns_hdr ho).1
          rw [hN] at hρ; exact hρ
      obtain ⟨hro, hins⟩ := row_ro hi hb hv
      have tails : ∀ (k : Nat) y a, ds[k]? = some y → Ins m.w y (f (k + 1)) a → ¬ Ins m.w (.own e sz ys) (f 0) a := fun k y a hy ha ha0 => by
        obtain ⟨b0, hb0, hl0, hk0⟩ := hins a ha0
        obtain ⟨j', hj', b', v', q1, q2, q3, q4⟩ := (h1 k y hy).2 a ha
        have := (hi.inj 0 j b0 0 j' b' (f 0) v' a hb0 hl0 q1 q2 hv q3 hk0 q4).2
        exact (hjs j' hj').1 (by rw [← this]; exact List.mem_cons_self)
      refine ⟨fun k y hy => ?_, fun k y k' y' a hy hy' ha ha' => ?_⟩
      · cases k with
        | zero =>
          simp at hy; subst hy
          refine ⟨hro, fun a ha => ?_⟩
          obtain ⟨b0, hb0, hl0, hk0⟩ := hins a ha
          exact ⟨j, List.mem_cons_self, b0, f 0, hb0, hl0, hv, hk0⟩
        | succ k =>
          obtain ⟨q1, q2⟩ := h1 k y (by simpa using hy)
          refine ⟨q1, fun a ha => ?_⟩
          obtain ⟨j', hj', r⟩ := q2 a ha
          exact ⟨j', List.mem_cons_of_mem _ hj', r⟩
      · cases k with
        | zero =>
          simp at hy; subst hy
          cases k' with
          | zero => rfl
          | succ k' => exact absurd ha (tails k' y' a (by simpa using hy') ha')
        | succ k =>
          cases k' with
          | zero => simp at hy'; subst hy'; exact absurd ha' (tails k y a (by simpa using hy) ha)
          | succ k' => exact congrArg (· + 1) (h2 k y k' y' a (by simpa using hy) (by simpa using hy') ha ha')
    rw [ownsK_cons] at h
    split at h
    · rename_i j n
      split at h
      · exact h.elim
      · rename_i hj
        obtain ⟨b, hb, hB⟩ := getK_spec.1 h
        clear h
        cases b with
        | row e sz ys => obtain ⟨rfl, hB⟩ := hB; exact own j e sz ys rfl (.inl hb) hj hB
        | deep e sz ys => obtain ⟨rfl, hB⟩ := hB; exact own j e sz ys rfl (.inr hb) hj hB
        | _ => exact hB.elim
    · exact plain h

/-- A block is written, and takes what others had. -/
theorem inv_trade {m : M} {top top' : List Blk} {H : List (List Blk)} (hi : Inv m top H) {i0 g : Nat} {b0 : Blk} {v0 : Value} (hb0 : top[i0]? = some b0) (hl0 : b0.live = true) (hρ : m.ρ 0 i0 = some v0) (hg : b0.has m.w v0 g)
    {w' : World} (hos : w'.os = m.w.os) (htape : w'.tape = m.w.tape) (hout : w'.output = m.w.output) (hsz : w'.heap.size = m.w.heap.size) (hheap : ∀ k, k ≠ g → w'.heap[k]? = m.w.heap[k]?)
    (hget : ∀ (i : Nat) b', i ≠ i0 → top'[i]? = some b' → b' = .dead ∨ top[i]? = some b')
    (hnew : ∀ b', top'[i0]? = some b' → ∀ k, b'.has w' v0 k → b0.has m.w v0 k ∨ ∃ (j : Nat) (b : Blk) (v : Value), j ≠ i0 ∧ top[j]? = some b ∧ b.live = true ∧ m.ρ 0 j = some v ∧ b.has m.w v k ∧ top'[j]? = some .dead)
    (hviews : Views ⟨w', m.ρ, m.U⟩ top') (hb : Keep m ⟨w', m.ρ, m.U⟩ → ∀ b', top'[i0]? = some b' → BlkOk ⟨w', m.ρ, m.U⟩ 0 i0 b') : Turn m ⟨w', m.ρ, m.U⟩ top ∧ Inv ⟨w', m.ρ, m.U⟩ top' H ∧ ∀ k, Mine ⟨w', m.ρ, m.U⟩ top' k → m.w.heap.size ≤ k ∨ Mine m top k := by
  have hT : Turn m ⟨w', m.ρ, m.U⟩ top := ⟨hos, htape, hout, Nat.le_of_eq hsz.symm, fun k _ hk => hheap k (by
    rintro rfl
    exact hk ⟨i0, b0, v0, hb0, hl0, hρ, hg⟩), fun _ _ _ h => h, fun _ _ => Iff.rfl⟩
  have hK := hT.keep hi
  have get : ∀ l i b', getB top' H l i = some b' → (l = 0 ∧ i = i0 ∧ top'[i0]? = some b') ∨ (¬ (l = 0 ∧ i = i0) ∧ (b' = .dead ∨ getB top H l i = some b')) := by
    intro l i b' hb'
    cases l with
    | zero =>
      by_cases h : i = i0
      · subst h; exact .inl ⟨rfl, rfl, hb'⟩
      · exact .inr ⟨fun e => h e.2, hget i b' h hb'⟩
    | succ l => exact .inr ⟨fun e => absurd e.1 (Nat.succ_ne_zero _), .inr hb'⟩
  have same : ∀ l i b' v, getB top H l i = some b' → b'.live = true → m.ρ l i = some v → ¬ (l = 0 ∧ i = i0) → ∀ k, b'.has m.w v k → w'.heap[k]? = m.w.heap[k]? := fun l i b' v h1 h2 h3 hn k hk => hheap k (by
    rintro rfl
    exact hn (hi.inj l i b' 0 i0 b0 v v0 k h1 h2 hb0 hl0 h3 hρ hk hg))
  -- whose it was
  have old : ∀ l i b' v k, getB top' H l i = some b' → b'.live = true → m.ρ l i = some v → b'.has w' v k → ∃ l0 j b'' v'', getB top H l0 j = some b'' ∧ b''.live = true ∧ m.ρ l0 j = some v'' ∧ b''.has m.w v'' k ∧ ((l0 = l ∧ j = i) ∨ (l = 0 ∧ i = i0 ∧ l0 = 0 ∧ top'[j]? = some .dead)) := by
    intro l i b' v k hb' hl' hv hk
    rcases get l i b' hb' with ⟨rfl, rfl, h⟩ | ⟨hn, h | h⟩
    · rw [hρ] at hv; cases hv
      rcases hnew b' h k hk with h' | ⟨j, b, v, hj, h1, h2, h3, h4, h5⟩
      · exact ⟨0, i, b0, v0, hb0, hl0, hρ, h', .inl ⟨rfl, rfl⟩⟩
      · exact ⟨0, j, b, v, h1, h2, h3, h4, .inr ⟨rfl, rfl, rfl, h5⟩⟩
    · subst h; cases hl'
    · exact ⟨l, i, b', v, h, hl', hv, Blk.has_back hk (same l i b' v h hl' hv hn), .inl ⟨rfl, rfl⟩⟩
  refine ⟨hT, ⟨fun l i b' hb' => ?_, fun l i b1 l' i' b2 v1 v2 k h1 hl1 h2 hl2 hv1 hv2 hk1 hk2 => ?_, fun l i b1 v1 k h1 hl1 hv1 hk => ?_, fun k hk => by rw [show (⟨w', m.ρ, m.U⟩ : M).w.heap.size = m.w.heap.size from hsz]; exact hi.lt k hk, hviews⟩, fun k ⟨j, b1, v1, h1, hl1, hv1, hk⟩ => by
    obtain ⟨l0, j', b'', v'', q1, q2, q3, q4, q5⟩ := old 0 j b1 v1 k h1 hl1 hv1 hk
    have : l0 = 0 := by rcases q5 with ⟨h, _⟩ | ⟨_, _, h, _⟩ <;> exact h
    subst this
    exact .inr ⟨j', b'', v'', q1, q2, q3, q4⟩⟩
  · rcases get l i b' hb' with ⟨rfl, rfl, h⟩ | ⟨hn, h | h⟩
    · exact hb hK b' h
    · subst h; trivial
    · exact (hi.blk l i b' h).keep hK rfl (fun v k hl hv hk => same l i b' v h hl hv hn k hk)
  · obtain ⟨l0, j, c1, u1, q1, q2, q3, q4, q5⟩ := old l i b1 v1 k h1 hl1 hv1 hk1
    obtain ⟨l0', j', c2, u2, q1', q2', q3', q4', q5'⟩ := old l' i' b2 v2 k h2 hl2 hv2 hk2
    obtain ⟨e1, e2⟩ := hi.inj l0 j c1 l0' j' c2 u1 u2 k q1 q2 q1' q2' q3 q3' q4 q4'
    subst e1; subst e2
    rcases q5 with ⟨rfl, rfl⟩ | ⟨rfl, rfl, rfl, hd⟩ <;> rcases q5' with ⟨r1, r2⟩ | ⟨r1, r2, r3, hd'⟩
    · exact ⟨r1, r2⟩
    · subst r3
      rw [show getB top' H 0 j = top'[j]? from rfl, hd'] at h1
      cases h1; cases hl1
    · subst r1; subst r2
      rw [show getB top' H 0 j = top'[j]? from rfl, hd] at h2
      cases h2; cases hl2
    · exact ⟨r1.symm, r2.symm⟩
  · obtain ⟨l0, j, c1, u1, q1, q2, q3, q4, q5⟩ := old l i b1 v1 k h1 hl1 hv1 hk
    exact hi.own l0 j c1 u1 k q1 q2 q3 q4

theorem move_step {C : Cx} (hC : C.Ok) {H : List (List Blk)} {o : Oper} {t : Nat} {x y : Operand} (ho : o.op = .store t x y) {tm : List PV} {top : List Blk} {i sz e c : Nat} {q : PV} (hp : ev? tm x = some (.rptr 0 i sz e c)) (hq : ev? tm y = some q) {K : List Blk → Prop}
    (h : moveK C top t i sz e c q K) : ∃ top', K top' ∧ top'.length = top.length ∧ GenLe top top' ∧ ActStep C H o tm top .any top' := by
  have mx : x ∈ o.op.operands.toList := by simp [ho, Op.operands]
  have my : y ∈ o.op.operands.toList := by simp [ho, Op.operands]
  obtain ⟨r, hr, ht_, h_⟩ := lookK_spec h
  clear h
  subst ht_
  obtain ⟨ii, z, d, hii, hs, hb, hz, hzz, hd, hty⟩ := row_info hC hr
  obtain ⟨cs, h, hcell, hcs⟩ := cells_rel h_
  obtain ⟨_, h⟩ := allCellK_spec h
  rw [lenK_spec] at h
  simp only [ifK] at h
  split at h
  case h_2 => exact h.elim
  rename_i hn
  have hn := Nat.eq_of_beq_eq_true hn
  obtain ⟨ds, l, h2, hdl, hjs, hown0⟩ := ownsK_spec _ _ _ h
  clear h
  obtain ⟨b0, hb0, hB⟩ := getK_spec.1 h2
  clear h2
  have hil : i ∉ l := fun hm => (hjs i hm).1 (List.mem_singleton.2 rfl)
  -- the run
  have run : ∀ (m : M) (a : Act) (g o' : Nat) (cur : Array Value) (e : Nat), a.eval x = .pointer (some ⟨g, o', none⟩) → RP m q (a.eval y) → m.w.heap[g]? = some (.cells cur e (0, 0)) → o' + r.size ≤ cur.size →
      (execOp a.eval o).run C.P m.w = .ok .skip (m.w.setRow g (cur.toList.take o' ++ (a.eval y).cells.toList ++ cur.toList.drop (o' + (a.eval y).cells.toList.length)).toArray) := by
    intro m a g o' cur e hv hrq hg hle
    obtain ⟨hsz, hrel⟩ := hcs m _ hrq
    have h1 : ∀ u ∈ (a.eval y).cells.toList, u.oneCell' = true := by
      intro u hu
      obtain ⟨j, hj⟩ := List.mem_iff_getElem?.1 hu
      have hjl : j < cs.length := by rw [← hsz]; simpa using (List.getElem?_eq_some_iff.1 hj).1
      exact (hrel j _ u (List.getElem?_eq_getElem hjl) (by simpa using hj)).one (hcell _ (List.getElem_mem _))
    have := run_storeCells_at (P := C.P) g o' e (a.eval y).cells.toList 0 cur m.w hg (by simp [hsz]; omega) h1
    simp only [execOp, ho, Instr.storeAt, Instr.sureAddr, hv, storeVar, Sem.run_bind, Sem.run_pure, Result.andThen_ok, run_size hii, hs]
    rw [if_neg (by omega)]
    simp only [this, Result.andThen_ok, Nat.add_zero]
  have main : ∀ (t' sz' : Nat) (xs : List (List DV)), (top[i]? = some (.row t' sz' xs) ∨ top[i]? = some (.deep t' sz' xs)) →
      ifK (Nat.beq sz' sz) (∃ x, xs[e]? = some x ∧ putK x c ds fun x' => killK i top fun top1 => setK top1 i (.deep t' sz' (xs.set e x')) fun top2 => hideK top2 l K) →
      ∃ top', K top' ∧ top'.length = top.length ∧ GenLe top top' ∧ ActStep C H o tm top .any top' := by
    intro t' sz' xs hbb hM
    simp only [ifK] at hM
    split at hM
    case h_2 => exact hM.elim
    rename_i hsz
    obtain rfl := Nat.eq_of_beq_eq_true hsz
    obtain ⟨x0, hx0, h1⟩ := hM
    obtain ⟨hle, h2⟩ := putK_spec.1 h1
    obtain ⟨top1, h3, hl1, hk1⟩ := killK_spec _ _ h2
    obtain ⟨hlt, h4⟩ := setK_spec.1 h3
    obtain ⟨top3, h5, hl3, hd3, hs3⟩ := hideK_spec l _ h4
    rw [List.length_set] at hl3
    have len3 : top3.length = top.length := by rw [hl3, hl1]
    have hb0l : b0.live = true := by rcases hbb with hb | hb <;> rw [hb0] at hb <;> cases hb <;> rfl
    have at_i : top3[i]? = some (.deep t' sz' (xs.set e (x0.take c ++ ds ++ x0.drop (c + ds.length)))) := by
      rw [hs3 i hil, List.getElem?_set_self hlt]
    have get : ∀ (a : Nat) b', a ≠ i → top3[a]? = some b' → b' = .dead ∨ (top[a]? = some b' ∧ ∀ e c, b' ≠ .sub i e c) := fun a b' ha hb' => by
      have hal : a < top.length := by rw [← len3]; exact (List.getElem?_eq_some_iff.1 hb').1
      by_cases hal' : a ∈ l
      · rw [hd3 a hal' (by rw [List.length_set, hl1]; exact hal)] at hb'
        cases hb'; exact .inl rfl
      · rw [hs3 a hal', List.getElem?_set_ne (fun e => ha e.symm)] at hb'
        obtain ⟨q1, q2, _⟩ := hk1 a b' hb'
        rcases q1 with q1 | q1
        · exact .inl q1
        · exact .inr ⟨q1, q2⟩
    have hgen : GenLe top top3 := ⟨fun a Y st hb' => by
        by_cases ha : a = i
        · subst ha; rw [at_i] at hb'; cases hb'
        · rcases get a _ ha hb' with h | h
          · cases h
          · exact h.1, Nat.le_of_eq len3.symm, fun a b' _ hb' hlv => by
        by_cases ha : a = i
        · subst ha; exact ⟨b0, hb0, hb0l⟩
        · rcases get a _ ha hb' with h | h
          · subst h; cases hlv
          · exact ⟨b', h.1, hlv⟩⟩
    refine ⟨top3, h5, len3, hgen, fun m a hi he hf next Q hnext => ?_⟩
    have hpx := ev_rel he mx hp
    have hqy := ev_rel he my hq
    generalize hv : a.eval x = v at hpx
    cases hpx with
    | rptr _ _ _ _ _ g N cc hρ =>
      obtain ⟨hro, hins⟩ := row_ro hi hbb hρ
      obtain ⟨flat, z0, s0, ho0, r0, hd0, sp0⟩ := hro.parts
      have hins' : ∀ k, Ins m.w (.own t' sz' xs) (.slice (some ⟨g, 0, none⟩) N cc) k → b0.has m.w (.slice (some ⟨g, 0, none⟩) N cc) k := fun k hk => by
        obtain ⟨b, q1, _, q2⟩ := hins k hk
        rw [hb0] at q1; cases q1; exact q2
      have hg0 : b0.has m.w (.slice (some ⟨g, 0, none⟩) N cc) g := hins' g (.head _ _ _ _ _ rfl)
      have notmine : ∀ (j : Nat) b v k, j ∈ l → top[j]? = some b → b.live = true → m.ρ 0 j = some v → b.has m.w v k → ¬ b0.has m.w (.slice (some ⟨g, 0, none⟩) N cc) k := fun j b v k hj q1 q2 q3 q4 h => by
        have := (hi.inj 0 i b0 0 j b _ v k hb0 hb0l q1 q2 hρ q3 h q4).2
        exact hil (this ▸ hj)
      obtain ⟨hsz, hrel⟩ := hcs m _ hqy
      have hcl : (a.eval y).cells.toList.length = cs.length := by rw [Array.length_toList]; exact hsz
      have hel : e < xs.length := (List.getElem?_eq_some_iff.1 hx0).1
      have hxl : x0.length = sz' := s0 x0 (List.mem_of_getElem? hx0)
      obtain ⟨hO1, hO2⟩ := hown0 H m hi (fun k => ((a.eval y).cells[k]?).getD undef) (fun k p' hp' => by
        have hkl : k < cs.length := (List.getElem?_eq_some_iff.1 hp').1
        have hk2 : (a.eval y).cells[k]? = some ((a.eval y).cells[k]'(by omega)) := Array.getElem?_eq_getElem (by omega)
        rw [hk2]
        exact hrel k p' _ hp' hk2)
      obtain ⟨hfl, hform⟩ := ho0
      rcases hform with ⟨h1, _⟩ | ⟨g', cap, cur, h1, hbase, hg, hcap, hmax, hcur, htake⟩
      · cases h1
      · simp only [Value.slice.injEq, Option.some.injEq, Addr.mk.injEq] at h1
        obtain ⟨⟨rfl, _⟩, rfl, rfl⟩ := h1
        have ho0 : m.w.ownsRow 0 t' sz' (.slice (some ⟨g, 0, none⟩) xs.length cc) xs.length flat := ⟨hfl, .inr ⟨g, cc, cur, rfl, hbase, hg, hcap, hmax, hcur, htake⟩⟩
        have hee : e * sz' + sz' ≤ xs.length * sz' := by rw [← Nat.succ_mul]; exact Nat.mul_le_mul_right _ hel
        have hcc : xs.length * sz' ≤ cc * sz' := Nat.mul_le_mul_right _ hcap
        have hcurl : cur.toList.length = cc * sz' := by rw [Array.length_toList]; exact hcur
        have hr0 := run m a g (e * sz' + c) cur t' hv hqy hg (by omega)
        unfold Oper.wp
        rw [hr0]
        generalize hcells : cur.toList.take (e * sz' + c) ++ (a.eval y).cells.toList ++ cur.toList.drop (e * sz' + c + (a.eval y).cells.toList.length) = cells
        have hcel : ∀ k, cells[k]? = if e * sz' + c ≤ k ∧ k < e * sz' + c + cs.length then (a.eval y).cells.toList[k - (e * sz' + c)]? else cur.toList[k]? := fun k => by
          rw [← hcells, seg_get (by rw [hcl, hcurl]; omega), hcl]
        have hcelen : cells.length = cc * sz' := by rw [← hcells]; simp [hsz]; omega
        let w' := m.w.setRow g cells.toArray
        have hother : ∀ k, k ≠ g → w'.heap[k]? = m.w.heap[k]? := fun k hk => setRow_other _ _ _ _ hk
        have hown' : w'.ownsRow 0 t' sz' (.slice (some ⟨g, 0, none⟩) xs.length cc) xs.length (cells.take (xs.length * sz')) := by
          refine ⟨by rw [List.length_take]; omega, .inr ⟨g, cc, cells.toArray, rfl, Nat.zero_le _, setRow_heap _ _ _ _ _ _ hg, hcap, hmax, by simp [hcelen], by simp⟩⟩
        have hK : Keep m ⟨w', m.ρ, m.U⟩ := ⟨fun _ _ _ h => h, by show _ ≤ (m.w.setRow g _).heap.size; simp, fun k hk => ⟨hk.2, hother k (fun e => hk.2 (e ▸ hi.own 0 i b0 _ g hb0 hb0l hρ hg0))⟩⟩
        have hrd : ∀ x v, RD m.w m.ok x v → RD w' (⟨w', m.ρ, m.U⟩ : M).ok x v := fun x v h => h.keep hK
        have val : ∀ (k : Nat) yy uu, ds[k]? = some yy → (cells.take (xs.length * sz'))[e * sz' + (c + k)]? = some uu → uu = ((a.eval y).cells[k]?).getD undef := fun k yy uu h1 h2 => by
          have hkl : k < cs.length := by rw [← hdl]; exact (List.getElem?_eq_some_iff.1 h1).1
          rw [List.getElem?_take_of_lt (by omega), hcel, if_pos ⟨by omega, by omega⟩, show e * sz' + (c + k) - (e * sz' + c) = k by omega] at h2
          rw [show (a.eval y).cells[k]? = some uu by simpa using h2]; rfl
        have keepk : ∀ (k : Nat) yy, ds[k]? = some yy → ∀ a', Ins m.w yy (((a.eval y).cells[k]?).getD undef) a' → w'.heap[a']? = m.w.heap[a']? := fun k yy h1 a' ha' => hother a' (fun e => by
          obtain ⟨j, hj, b, v, q1, q2, q3, q4⟩ := (hO1 k yy h1).2 a' ha'
          exact notmine j b v a' hj q1 q2 q3 q4 (e ▸ hg0))
        have hput := RO.put (ok' := (⟨w', m.ρ, m.U⟩ : M).ok) hrd z0 s0 r0 hd0 sp0 hx0 hle hown' (fun k hk hkl => by
            rw [List.getElem?_take_of_lt hkl, hcel, if_neg (fun h => hk ⟨h.1, by rw [hdl]; exact h.2⟩), ← htake, List.getElem?_take_of_lt hkl])
          (fun k ⟨i1, xx, j1, yy, uu, a1, a2, a3, _, a5⟩ => hother k (fun e => by
            have := hd0 i1 xx j1 yy uu k a1 a2 a3 a5
            exact this (by rw [e]; rfl)))
          (fun k yy uu h1 h2 => by
            obtain rfl := val k yy uu h1 h2
            obtain ⟨q1, q2⟩ := hO1 k yy h1
            refine ⟨q1.mono hK.ok (keepk k yy h1), fun a' ha' => ?_⟩
            obtain ⟨j, hj, b, v, p1, p2, p3, p4⟩ := q2 a' (ha'.back (keepk k yy h1))
            have hno := notmine j b v a' hj p1 p2 p3 p4
            refine ⟨fun h => hno (hins' a' (.head _ _ _ _ _ h)), fun ⟨i1, xx, j1, y1, u1, a1, a2, a3, _, a5⟩ => hno (hins' a' (.cell _ _ _ _ _ flat i1 xx j1 y1 u1 ho0 a1 a2 a3 a5))⟩)
          (fun k yy uu k' yy' uu' a' h1 h2 h3 h4 h5 h6 => by
            obtain rfl := val k yy uu h1 h2
            obtain rfl := val k' yy' uu' h3 h4
            exact hO2 k yy k' yy' a' h1 h3 (h5.back (keepk k yy h1)) (h6.back (keepk k' yy' h3)))
        have hset := inv_trade (top' := top3) hi hb0 hb0l hρ hg0 (w' := w') rfl rfl rfl (by show (m.w.setRow g _).heap.size = _; simp) hother
          (fun a' b' ha' hb' => (get a' b' ha' hb').imp id fun h => h.1) (fun b' hb' k hk => by
            rw [at_i] at hb'; cases hb'
            rcases hput.2 k hk with h | ⟨i1, xx, j1, yy, uu, a1, a2, a3, _, a5⟩ | ⟨k', yy, uu, h1, h2, h5⟩
            · exact .inl (hins' k (.head _ _ _ _ _ h))
            · exact .inl (hins' k (.cell _ _ _ _ _ flat i1 xx j1 yy uu ho0 a1 a2 a3 a5))
            · obtain rfl := val k' yy uu h1 h2
              obtain ⟨j, hj, b, v, p1, p2, p3, p4⟩ := (hO1 k' yy h1).2 k (h5.back (keepk k' yy h1))
              exact .inr ⟨j, b, v, fun e => hil (e ▸ hj), p1, p2, p3, p4, hd3 j hj (by rw [List.length_set, hl1]; exact (List.getElem?_eq_some_iff.1 p1).1)⟩)
          (fun i1 p1 e1 c1 v1 d1 d2 => by
            have hi1 : i1 ≠ i := fun e => by rw [e, at_i] at d1; cases d1
            rcases get i1 _ hi1 d1 with h | ⟨h, hno⟩
            · cases h
            obtain ⟨q1, V1, q2, q3⟩ := hi.sub i1 p1 e1 c1 v1 h d2
            refine ⟨q1, V1, q2, fun et sz xs x e3 sz3 zs fl b1 b2 b3 b4 => ?_⟩
            have hp1 : p1 ≠ i := fun e => hno e1 c1 (by rw [e])
            rcases get p1 _ hp1 b1 with h' | ⟨h', _⟩
            · cases h'
            refine q3 et sz xs x e3 sz3 zs fl h' b2 b3 (ownsRow_same b4 fun k hk => (hother k (fun e => ?_)).symm)
            subst e
            exact hp1 (hi.inj 0 p1 _ 0 i b0 V1 _ k h' rfl hb0 hb0l q2 hρ (Blk.has_head hk) hg0).2)
          (fun _ b' hb' => by
            rw [at_i] at hb'; cases hb'
            intro v' hv'
            rw [show (⟨w', m.ρ, m.U⟩ : M).ρ 0 i = m.ρ 0 i from rfl, hρ] at hv'
            cases hv'
            exact hput.1)
        exact hnext _ _ hset.1 (fun _ _ _ => rfl) hset.2.2 hset.2.1 (.any _)
  cases b0 with
  | row t' sz' xs => exact main t' sz' xs (.inl hb0) hB
  | deep t' sz' xs => exact main t' sz' xs (.inr hb0) hB
  | _ => exact hB.elim
theorem store_step {C : Cx} (hC : C.Ok) {H : List (List Blk)} {o : Oper} {t : Nat} {x y : Operand} (ho : o.op = .store t x y) {tm : List PV} {top : List Blk} {p q : PV} (hp : ev? tm x = some p) (hq : ev? tm y = some q) {K : List Blk → Prop}
    (h : storeK C top t p q K) : ∃ top', K top' ∧ top'.length = top.length ∧ GenLe top top' ∧ ActStep C H o tm top .any top' := by
  unfold storeK at h
  split at h
  · split at h
    · exact move_step hC ho hp hq h
    · exact store_step0 hC ho hp hq h
  · exact store_step0 hC ho hp hq h
end Go.Proofs.Ve

/- What the value machine says of what turns memory is so: append. -/
set_option linter.all false
namespace Go.Proofs.Ve
open Go

theorem newsK_spec {top : List Blk} {sz : Nat} (h0 : 0 < sz) {x : PV} {K : List (List DV) → Prop} (h : newsK top sz x K) :
    ∃ ys, K ys ∧ ∀ (m : M) (H : List (List Blk)) v, Inv m top H → RP m x v → ∃ (A : Option Addr) (n c : Nat) (news : List Value), v = .slice A n c ∧ n = ys.length ∧ news.length = n * sz ∧ (A = none → n = 0) ∧ (∀ y ∈ ys, y.length = sz) ∧
      (∀ a, A = some a → ∀ (j : Nat) u, news[j]? = some u → m.w.cell? (a.add j) = some u) ∧ (∀ u ∈ news, u.oneCell' = true) ∧
      ∀ (i : Nat) y (j : Nat) z u, ys[i]? = some y → y[j]? = some z → news[i * sz + j]? = some u → RD m.w m.ok z u := by
  unfold newsK at h
  split at h
  · refine ⟨[], h, fun m H v _ hv => ?_⟩
    cases hv
    exact ⟨none, 0, 0, [], rfl, rfl, by simp, (fun _ => rfl), by simp, (fun a ha => by cases ha), by simp, (fun i y j z u hy => by simp at hy)⟩
  · refine ⟨[], h, fun m H v _ hv => ?_⟩
    cases hv with
    | emp ad => exact ⟨some ad, 0, 0, [], rfl, rfl, by simp, (fun h => by cases h), by simp, (fun a ha j u hu => by simp at hu), by simp, (fun i y j z u hy => by simp at hy)⟩
  · rename_i ys
    obtain ⟨hys, h⟩ := h
    refine ⟨ys, h, fun m H v _ hv => ?_⟩
    cases hv with
    | d _ _ hv =>
      cases hv with
      | sl sz' _ A n c ad u hn hc hm hA hsz hcell hr =>
        have e : 0 < n → sz' = sz := fun hp => by
          obtain ⟨y, hy⟩ : ∃ y, y ∈ ys := ⟨ys[0]'(by omega), List.getElem_mem _⟩
          rw [← hsz y hy, hys y hy]
        have key : ∀ j, j < n * sz → ∃ i j' y z, j = i * sz + j' ∧ ys[i]? = some y ∧ y[j']? = some z := by
          intro j hj
          have hi : j / sz < n := Nat.div_lt_of_lt_mul (by rw [Nat.mul_comm]; exact hj)
          have hj' : j % sz < sz := Nat.mod_lt _ h0
          have h1 : ys[j / sz]? = some (ys[j / sz]'(by omega)) := List.getElem?_eq_getElem _
          have h2 : (ys[j / sz]'(by omega)).length = sz := hys _ (List.getElem_mem _)
          exact ⟨j / sz, j % sz, _, _, by rw [Nat.mul_comm]; exact (Nat.div_add_mod j sz).symm, h1, List.getElem?_eq_getElem (by omega)⟩
        refine ⟨A, n, c, (List.range (n * sz)).map u, rfl, hn.symm, by simp, fun hA0 => ?_, hys, fun a ha j w hw => ?_, fun w hw => ?_, fun i y j z w hy hz hw => ?_⟩
        · rcases Nat.eq_zero_or_pos n with h | h
          · exact h
          · rw [hA h] at hA0; cases hA0
        · have hj : j < n * sz := by simpa using (List.getElem?_eq_some_iff.1 hw).1
          simp [hj] at hw
          have hp : 0 < n := by rcases Nat.eq_zero_or_pos n with h | h; (rw [h] at hj; omega); exact h
          obtain ⟨i, j', y, z, rfl, hy, hz⟩ := key j hj
          rw [hA hp] at ha
          cases ha
          have := (hcell i y j' z hy hz).2
          rw [e hp] at this
          rw [this, hw]
        · simp only [List.mem_map, List.mem_range] at hw
          obtain ⟨j, hj, rfl⟩ := hw
          have hp : 0 < n := by rcases Nat.eq_zero_or_pos n with h | h; (rw [h] at hj; omega); exact h
          obtain ⟨i, j', y, z, rfl, hy, hz⟩ := key j hj
          have := hr i y j' z hy hz
          rw [e hp] at this
          exact this.one
        · have hi : i < n := by rw [← hn]; exact (List.getElem?_eq_some_iff.1 hy).1
          have hjl : i * sz + j < n * sz := by simpa using (List.getElem?_eq_some_iff.1 hw).1
          simp [hjl] at hw
          subst hw
          have := hr i y j z hy hz
          rw [e (by omega)] at this
          exact this
  · rename_i j n
    obtain ⟨b, hb, h⟩ := getK_spec.1 h
    split at h
    case h_2 => exact h.elim
    rename_i e0 sz' ys
    simp only [ifK] at h
    split at h
    case h_2 => exact h.elim
    rename_i hsz
    have hszz := Nat.eq_of_beq_eq_true hsz
    refine ⟨ys.take n, h, fun m H v hi hv => ?_⟩
    cases hv with
    | row _ _ _ N c A hρ hn hc =>
      obtain ⟨hp, hxs, flat, ho, hrd⟩ := hi.blk 0 j _ hb _ hρ
      subst hszz
      have hN : N = ys.length := by
        rcases ho.2 with ⟨h1, h2⟩ | ⟨g, cap, cur, h1, _⟩
        · simp only [Value.slice.injEq] at h1; omega
        · simp only [Value.slice.injEq] at h1; exact h1.2.1
      have hfl : flat.length = ys.length * sz' := ho.1
      have hlt : n * sz' ≤ flat.length := by rw [hfl]; exact Nat.mul_le_mul_right _ (by omega)
      have hone : ∀ u ∈ flat, u.oneCell' = true := by
        intro u hu
        obtain ⟨k, hk⟩ := List.mem_iff_getElem?.1 hu
        have hkl : k < ys.length * sz' := by rw [← hfl]; exact (List.getElem?_eq_some_iff.1 hk).1
        have hi2 : k / sz' < ys.length := Nat.div_lt_of_lt_mul (by rw [Nat.mul_comm]; exact hkl)
        obtain ⟨y0, h1⟩ : ∃ y0, ys[k / sz']? = some y0 := ⟨_, List.getElem?_eq_getElem hi2⟩
        have h2 : y0.length = sz' := hxs _ (List.mem_of_getElem? h1)
        exact (hrd (k / sz') _ (k % sz') _ u h1 (List.getElem?_eq_getElem (by rw [h2]; exact Nat.mod_lt _ hp)) (by rw [Nat.mul_comm, Nat.div_add_mod]; exact hk)).one
      refine ⟨A, n, c, flat.take (n * sz'), rfl, by rw [List.length_take]; omega, by rw [List.length_take]; omega, fun hA0 => ?_, fun y hy => hxs y (List.mem_of_mem_take hy), fun a ha k u hu => ?_, fun u hu => hone u (List.mem_of_mem_take hu), fun i y j' z u hy hz hu => ?_⟩
      · subst hA0
        rcases ho.2 with ⟨h1, h2⟩ | ⟨g, cap, cur, h1, _⟩
        · omega
        · cases h1
      · subst ha
        have hk : k < n * sz' := by
          rcases Nat.lt_or_ge k (n * sz') with h1 | h1
          · exact h1
          · rw [List.getElem?_eq_none (by rw [List.length_take]; omega)] at hu; cases hu
        rw [List.getElem?_take_of_lt hk] at hu
        have := ho.cells (g := a.block) rfl k u hu
        rcases ho.2 with ⟨h1, _⟩ | ⟨g, cap, cur, h1, _⟩
        · cases h1
        · simp only [Value.slice.injEq, Option.some.injEq] at h1
          obtain ⟨rfl, _⟩ := h1
          exact this
      · have hin : i < n := by
          rcases Nat.lt_or_ge i n with h1 | h1
          · exact h1
          · rw [List.getElem?_eq_none (by rw [List.length_take]; omega)] at hy; cases hy
        rw [List.getElem?_take_of_lt hin] at hy
        have hk : i * sz' + j' < n * sz' := by
          rcases Nat.lt_or_ge (i * sz' + j') (n * sz') with h1 | h1
          · exact h1
          · rw [List.getElem?_eq_none (by rw [List.length_take]; omega)] at hu; cases hu
        rw [List.getElem?_take_of_lt hk] at hu
        exact hrd i y j' z u hy hz hu
  · exact h.elim

/-- The run of append, onto a row of one's own. -/
theorem run_append_any {P : Program} {w : World} {t ty e : TypeId} {i : TypeInfo} {z : Value} {size bytes : Nat} (ht : P.underlying t = some (.slice e)) (hi : P.info? e = some i) (hz : i.zero = some z)
    (hsize : i.size = size) (hby : i.bytes = bytes) (hzs : z.cells.size = size) (hsz : 0 < size) (hb0 : 0 < bytes) {v : Value} {n : Nat} {xs : List Value} (hown : w.ownsRow 0 e size v n xs)
    {A : Option Addr} {m c : Nat} {news : List Value} (hl : news.length = m * size) (hA : A = none → m = 0) (hnews : ∀ a, A = some a → ∀ (j : Nat) u, news[j]? = some u → w.cell? (a.add j) = some u) (h1 : ∀ u ∈ news, u.oneCell' = true)
    (hbytes : (n + m) * bytes ≤ 140737488355328) :
    ∃ v' w', (Builtin.append_ #[t, t] ty #[v, .slice A m c]).run P w = .ok v' w' ∧ w'.ownsRow 0 e size v' (n + m) (xs ++ news) ∧ w.grownBy w' v.ownBlock ∧ (v'.ownBlock = v.ownBlock ∨ v'.ownBlock = some w.heap.size) := by
  have h63 : n + m ≤ maxLen := by
    unfold maxLen
    have : n + m ≤ (n + m) * bytes := Nat.le_mul_of_pos_right _ hb0
    omega
  cases A with
  | some a =>
    obtain ⟨v', w', h2, h3, h4, _, h5⟩ := run_append_own_at (P := P) w 0 t ty e i z size bytes ht hi hz hsize hby hzs hsz v n xs hown a m c news hl (hnews a rfl) h1 h63 hbytes (Nat.zero_le _)
    exact ⟨v', w', h2, h3, h4, h5⟩
  | none =>
    obtain rfl := hA rfl
    obtain rfl : news = [] := List.eq_nil_of_length_eq_zero (by simpa using hl)
    refine ⟨v, w, ?_, by simpa using hown, ⟨rfl, rfl, rfl, Nat.le_refl _, fun _ _ _ => rfl⟩, .inl rfl⟩
    rcases hown.2 with ⟨rfl, hn⟩ | ⟨g, cap, cur, rfl, _, _, hnc, _⟩
    · simp [Builtin.append_, run_under ht, sizeOf, typeInfo, hi, Builtin.lenOf, Builtin.firstCells]
    · simp [Builtin.append_, run_under ht, sizeOf, typeInfo, hi, Builtin.lenOf, Builtin.firstCells, hnc, storeCells]

/-- Onto a row of no elements, without room: as onto nil; nothing: as it was. -/
theorem run_append_emp {P : Program} {w : World} {t ty e : TypeId} {i : TypeInfo} (ht : P.underlying t = some (.slice e)) (hi : P.info? e = some i) (ad : Addr) {A : Option Addr} {m c : Nat} (hm : 0 < m) (hb0 : 0 < i.bytes) (hbytes : m * i.bytes ≤ 140737488355328) :
    (Builtin.append_ #[t, t] ty #[.slice (some ad) 0 0, .slice A m c]).run P w = (Builtin.append_ #[t, t] ty #[.slice none 0 0, .slice A m c]).run P w := by
  have hm' : ¬ m = 0 := by omega
  have hz : ¬ i.bytes = 0 := by omega
  have hn : Builtin.nextslicecap m 0 = m := by unfold Builtin.nextslicecap; simp; try omega
  have hbig : ¬ 281474976710656 < m * i.bytes := by omega
  simp [Builtin.append_, run_under ht, sizeOf, typeInfo, hi, Builtin.lenOf, Builtin.firstCells, loadCells, loadCellsFrom, hm', hz, hn, hbig]
theorem run_append_emp0 {P : Program} {w : World} {t ty e : TypeId} {i : TypeInfo} (ht : P.underlying t = some (.slice e)) (hi : P.info? e = some i) (ad : Addr) {A : Option Addr} {c : Nat} :
    (Builtin.append_ #[t, t] ty #[.slice (some ad) 0 0, .slice A 0 c]).run P w = .ok (.slice (some ad) 0 0) w := by
  cases A <;> simp [Builtin.append_, run_under ht, sizeOf, typeInfo, hi, Builtin.lenOf, Builtin.firstCells, loadCells, loadCellsFrom, storeCells]
theorem ownBlock_blkOf (v : Value) (h : ∃ A n c, v = .slice A n c) : v.ownBlock = blkOf v := by
  obtain ⟨A, n, c, rfl⟩ := h
  cases A <;> rfl
theorem owns_slice {w : World} {base e size n : Nat} {v : Value} {xs : List Value} (h : w.ownsRow base e size v n xs) : ∃ A c, v = .slice A n c ∧ n ≤ c := by
  rcases h.2 with ⟨rfl, rfl⟩ | ⟨g, cap, cur, rfl, _, _, h1, _⟩
  · exact ⟨none, 0, rfl, Nat.le_refl _⟩
  · exact ⟨_, cap, rfl, h1⟩

theorem append_step {C : Cx} (hC : C.Ok) {H : List (List Blk)} {o : Oper} {c : Call} (ho : o.op = .call c) (hcl : c.callee = .builtin .append) {x y : Operand} {t : TypeId} (hx : c.args = #[x, y]) (ht : c.argTypes = #[t, t]) {tm : List PV} {top : List Blk} {p q : PV}
    (hp : ev? tm x = some p) (hq : ev? tm y = some q) {K : PV → List Blk → Prop} (h : appendK C top t p q K) : ∃ pv top', K pv top' ∧ top.length ≤ top'.length ∧ GenLe top top' ∧ ActStep C H o tm top pv top' ∧ (p = .emp → top <+: top' ∧ OpStep C H o tm top pv top') := by
  have mx : x ∈ o.op.operands.toList := by rw [ho]; simp [Op.operands, Call.operands, hcl, hx]
  have my : y ∈ o.op.operands.toList := by rw [ho]; simp [Op.operands, Call.operands, hcl, hx]
  obtain ⟨r, hr, ht_, h_⟩ := lookK_spec h
  clear h
  subst ht_
  obtain ⟨i1, z1, d, hi1, hs1, hb1, hz1, hzz1, hd, hty⟩ := row_info hC hr
  split at h_
  case h_2 => exact h_.elim
  rename_i e hty0
  obtain ⟨r', hr', ht_, h⟩ := lookK_spec h_
  clear h_
  subst ht_
  obtain ⟨i2, z2, d2, hi2, hs2, hb2, hz2, hzz2, hd2, hty2⟩ := row_info hC hr'
  rw [hty0] at hty
  obtain ⟨e, rfl⟩ : ∃ e, d = .slice e := by cases d <;> simp [tyOf] at hty <;> exact ⟨_, rfl⟩
  simp only [tyOf, Ty.slice.injEq] at hty
  subst hty
  simp only [ifK] at h
  split at h
  case h_2 => exact h.elim
  rename_i hpos
  have hpos : 0 < r'.size := by simpa [Nat.blt_eq] using hpos
  split at h
  case h_2 => exact h.elim
  rename_i hbp
  have hbp : 0 < r'.bytes := by simpa [Nat.blt_eq] using hbp
  rw [lenK_spec] at h
  split at h
  case h_2 => exact h.elim
  rename_i hzl
  have hzl := Nat.eq_of_beq_eq_true hzl
  have hzs : z2.cells.size = r'.size := by rw [← hzl, ← hzz2]; simp
  obtain ⟨ys, h, hnews⟩ := newsK_spec hpos h
  have ex : ∀ (a : Act) (w w' : World) (v : Value), (Builtin.append_ #[r.t, r.t] o.type #[a.eval x, a.eval y]).run C.P w = .ok v w' → (execOp a.eval o).run C.P w = .ok (.value v) w' := fun a w w' v hv => by
    simp [execOp, ho, resolve, hcl, hx, ht, invoke, builtin, hv]
  -- what a new row comes to, the elder one (if any) being dead
  have fin : ∀ (m : M) (top1 : List Blk) (xs : List (List DV)) (flat : List Value) (s : Value) (v' : Value) (w' : World) (news : List Value), Inv m top H → (∀ j, top.length ≤ j → m.ρ 0 j = none) → top1.length = top.length →
      (∀ l i b, getB top1 H l i = some b → b.live = true → getB top H l i = some b ∧ ∀ v, m.ρ l i = some v → ∀ k, b.has m.w v k → s.ownBlock ≠ some k) →
      (∀ (i p e c : Nat), top1[i]? = some (.sub p e c) → top[i]? = some (.sub p e c)) →
      (∀ k, s.ownBlock = some k → Mine m top k) → w'.ownsRow 0 r'.t r'.size v' (xs.length + ys.length) (flat ++ news) → flat.length = xs.length * r'.size → m.w.grownBy w' s.ownBlock → (v'.ownBlock = s.ownBlock ∨ v'.ownBlock = some m.w.heap.size) →
      (∀ x ∈ xs, x.length = r'.size) → (∀ y ∈ ys, y.length = r'.size) → (∀ (i : Nat) x (j : Nat) y u, xs[i]? = some x → x[j]? = some y → flat[i * r'.size + j]? = some u → RD m.w m.ok y u) →
      (∀ (i : Nat) y (j : Nat) z u, ys[i]? = some y → y[j]? = some z → news[i * r'.size + j]? = some u → RD m.w m.ok z u) →
      ∀ (next : Act → World → Prop) (Q : Exit → Act → World → Prop) (a : Act), (execOp a.eval o).run C.P m.w = .ok (.value v') w' →
        (∀ v m', Turn m m' top → (∀ l j, ¬ (l = 0 ∧ top.length ≤ j ∧ j < top.length + 1) → m'.ρ l j = m.ρ l j) →
          (∀ k, Mine m' (top1 ++ [Blk.row r'.t r'.size (xs ++ ys)]) k → m.w.heap.size ≤ k ∨ Mine m top k) → Inv m' (top1 ++ [.row r'.t r'.size (xs ++ ys)]) H → RP m' (.row 0 top.length (xs.length + ys.length)) v → next (a.put o.dst v) m'.w) →
        o.wp C.P a m.w next Q := by
    intro m top1 xs flat s v' w' news hinv hfree hl1 hold hsubs hmine hown hflat hgrown hat hxl hyl hrx hry next Q a hrun hnext
    have hfr : m.ρ 0 top.length = none := hfree _ (Nat.le_refl _)
    obtain ⟨A', c', rfl, hc'⟩ := owns_slice hown
    have hob : (Value.slice A' (xs.length + ys.length) c').ownBlock = blkOf (.slice A' (xs.length + ys.length) c') := ownBlock_blkOf _ ⟨_, _, _, rfl⟩
    let m' : M := ⟨w', fun l i => if l = 0 ∧ i = top.length then some (.slice A' (xs.length + ys.length) c') else m.ρ l i, fun k => m.U k ∨ blkOf (.slice A' (xs.length + ys.length) c') = some k⟩
    have hblk : ∀ k, blkOf (.slice A' (xs.length + ys.length) c') = some k → s.ownBlock = some k ∨ k = m.w.heap.size := by
      intro k hk
      rcases hat with h | h
      · rw [hob, hk] at h; exact .inl h.symm
      · rw [hob, hk] at h; cases h; exact .inr rfl
    have hsU : ∀ k, s.ownBlock = some k → m.U k ∧ k < m.w.heap.size := by
      intro k hk
      obtain ⟨j, b, v, h1, h2, h3, h4⟩ := hmine k hk
      have := hinv.own 0 j b v k h1 h2 h3 h4
      exact ⟨this, hinv.lt k this⟩
    have back : ∀ l i b v, getB top1 H l i = some b → b.live = true → m.ρ l i = some v → ∀ k, b.has w' v k → b.has m.w v k := fun l i b v h1 h2 h3 k hk => by
      obtain ⟨h4, h5⟩ := hold l i b h1 h2
      exact hinv.back h4 h2 h3 (fun k hu hk => hgrown.block k (hinv.lt k hu) (fun e => h5 v h3 k hk e.symm)) hk
    have hT : Turn m m' top := by
      refine ⟨hgrown.os, hgrown.tape, hgrown.output, hgrown.size, fun k hk hn => hgrown.block k hk (fun e => hn (hmine k e.symm)), fun l j v hv => ?_, fun k hk => ?_⟩
      · show (if l = 0 ∧ j = top.length then _ else m.ρ l j) = some v
        rw [if_neg]
        · exact hv
        · rintro ⟨rfl, rfl⟩; rw [hfr] at hv; cases hv
      · show m.U k ∨ _ ↔ m.U k
        refine ⟨fun h => ?_, .inl⟩
        rcases h with h | h
        · exact h
        · rcases hblk k h with h | h
          · exact (hsU k h).1
          · omega
    have hK := hT.keep hinv
    have hρo : ∀ l j, ¬ (l = 0 ∧ j = top.length) → m'.ρ l j = m.ρ l j := fun l j hn => by show (if l = 0 ∧ j = top.length then _ else m.ρ l j) = _; rw [if_neg hn]
    have hρn : m'.ρ 0 top.length = some (.slice A' (xs.length + ys.length) c') := by show (if 0 = 0 ∧ top.length = top.length then _ else _) = _; rw [if_pos ⟨rfl, rfl⟩]
    have get : ∀ l j b, getB (top1 ++ [.row r'.t r'.size (xs ++ ys)]) H l j = some b → (l = 0 ∧ j = top.length ∧ b = .row r'.t r'.size (xs ++ ys)) ∨ (¬ (l = 0 ∧ j = top.length) ∧ getB top1 H l j = some b) := by
      intro l j b hb
      by_cases hn : l = 0 ∧ j = top.length
      · obtain ⟨rfl, rfl⟩ := hn
        rw [← hl1, getB_snoc_new] at hb
        cases hb
        exact .inl ⟨rfl, rfl, rfl⟩
      · rw [getB_snoc_old (by rw [hl1]; exact hn)] at hb
        exact .inr ⟨hn, hb⟩
    unfold Oper.wp
    rw [hrun]
    refine hnext _ m' hT (fun l j hn => hρo l j (fun e => hn ⟨e.1, by omega, by omega⟩)) (fun k hm => ?_) ⟨fun l j b hb => ?_, fun l j b l' j' b' v1 v2 k hb hlb hb' hlb' hv1 hv2 hk1 hk2 => ?_, fun l j b v k hb hlb hv hk => ?_, fun k hk => ?_, ?_⟩ (.row _ _ _ _ _ _ hρn (Nat.le_refl _) hc')
    · obtain ⟨j, b, v, hb, hlb, hv, hk⟩ := hm
      rcases get 0 j b hb with ⟨_, rfl, rfl⟩ | ⟨hn, hb1⟩
      · rw [hρn] at hv; cases hv
        rcases hblk k hk with h | h
        · exact .inr (hmine k h)
        · exact .inl (by omega)
      · rw [hρo 0 j hn] at hv
        exact .inr ⟨j, b, v, (hold 0 j b hb1 hlb).1, hlb, hv, back 0 j b v hb1 hlb hv k hk⟩
    · rcases get l j b hb with ⟨rfl, rfl, rfl⟩ | ⟨hn, hb1⟩
      · intro v hv
        rw [hρn] at hv
        cases hv
        refine ⟨hpos, fun x hx => ?_, flat ++ news, by rw [List.length_append]; exact hown, fun i x j' y' u hx hy' hu => ?_⟩
        · rcases List.mem_append.1 hx with h | h
          · exact hxl x h
          · exact hyl x h
        · rcases Nat.lt_or_ge i xs.length with hi | hi
          · rw [List.getElem?_append_left hi] at hx
            have hjl : j' < r'.size := by rw [← hxl x (List.mem_of_getElem? hx)]; exact (List.getElem?_eq_some_iff.1 hy').1
            have : i * r'.size + r'.size ≤ xs.length * r'.size := by rw [← Nat.succ_mul]; exact Nat.mul_le_mul_right _ hi
            rw [List.getElem?_append_left (by rw [hflat]; omega)] at hu
            exact (hrx i x j' y' u hx hy' hu).keep hK
          · rw [List.getElem?_append_right hi] at hx
            have : xs.length * r'.size ≤ i * r'.size := Nat.mul_le_mul_right _ hi
            rw [List.getElem?_append_right (by rw [hflat]; omega), hflat] at hu
            refine (hry (i - xs.length) x j' y' u hx hy' ?_).keep hK
            rw [Nat.sub_mul, show i * r'.size - xs.length * r'.size + j' = i * r'.size + j' - xs.length * r'.size by omega]
            exact hu
      · cases hlb : b.live with
        | false => cases b <;> simp [Blk.live] at hlb <;> exact True.intro
        | true =>
          obtain ⟨hb2, hns⟩ := hold l j b hb1 hlb
          refine (hinv.blk l j b hb2).keep hK (hρo l j hn) (fun v k hl hv hk => hgrown.block k (hinv.lt k (hinv.own l j b v k hb2 hl hv hk)) (fun e => hns v hv k hk e.symm))
    · rcases get l j b hb with ⟨rfl, rfl, rfl⟩ | ⟨hn, hb1⟩ <;> rcases get l' j' b' hb' with ⟨rfl, rfl, rfl⟩ | ⟨hn', hb1'⟩
      · exact ⟨rfl, rfl⟩
      · exfalso
        rw [hρn] at hv1; cases hv1
        rw [hρo l' j' hn'] at hv2
        obtain ⟨hb2, hns⟩ := hold l' j' b' hb1' hlb'
        have hk2 := back l' j' b' v2 hb1' hlb' hv2 k hk2
        rcases hblk k hk1 with h | h
        · exact hns v2 hv2 k hk2 h
        · have := hinv.lt k (hinv.own l' j' b' v2 k hb2 hlb' hv2 hk2); omega
      · exfalso
        rw [hρn] at hv2; cases hv2
        rw [hρo l j hn] at hv1
        obtain ⟨hb2, hns⟩ := hold l j b hb1 hlb
        have hk1 := back l j b v1 hb1 hlb hv1 k hk1
        rcases hblk k hk2 with h | h
        · exact hns v1 hv1 k hk1 h
        · have := hinv.lt k (hinv.own l j b v1 k hb2 hlb hv1 hk1); omega
      · rw [hρo l j hn] at hv1; rw [hρo l' j' hn'] at hv2
        exact hinv.inj l j b l' j' b' v1 v2 k (hold l j b hb1 hlb).1 hlb (hold l' j' b' hb1' hlb').1 hlb' hv1 hv2 (back l j b v1 hb1 hlb hv1 k hk1) (back l' j' b' v2 hb1' hlb' hv2 k hk2)
    · rcases get l j b hb with ⟨rfl, rfl, rfl⟩ | ⟨hn, hb1⟩
      · rw [hρn] at hv; cases hv; exact .inr hk
      · rw [hρo l j hn] at hv
        exact .inl (hinv.own l j b v k (hold l j b hb1 hlb).1 hlb hv (back l j b v hb1 hlb hv k hk))
    · rcases hk with hk | hk
      · exact Nat.lt_of_lt_of_le (hinv.lt k hk) hgrown.size
      · rcases hown.2 with ⟨h1, _⟩ | ⟨g, cap, cur, h1, _, hg, _⟩
        · rw [h1] at hk; cases hk
        · rw [h1] at hk; cases hk
          exact (Array.getElem?_eq_some_iff.1 hg).1
    · refine hinv.sub.of (fun i p e c v hb hv => ?_) (fun p V hV => hT.ρ 0 p V hV) (fun p et sz xs V hb hV => ?_)
      · rcases get 0 i _ hb with ⟨_, _, h⟩ | ⟨hn, hb1⟩
        · cases h
        · exact ⟨hsubs i p e c hb1, by rw [← hρo 0 i hn]; exact hv⟩
      · rcases get 0 p _ hb with ⟨_, _, h⟩ | ⟨hn, hb1⟩
        · cases h
        · obtain ⟨h1, h2⟩ := hold 0 p _ hb1 rfl
          exact ⟨h1, fun k hk => hgrown.block k (hinv.lt k (hinv.own 0 p _ V k h1 rfl hV (Blk.has_head hk))) (fun e => h2 V hV k (Blk.has_head hk) e.symm)⟩
  split at h
  · -- onto nil
    obtain ⟨hby, h⟩ := h
    unfold newK at h
    rw [lenK_spec, snocK_spec] at h
    refine ⟨_, _, h, by simp, GenLe.app _ rfl, fun m a hinv he hfree next Q hnext => ?_, fun e => by cases e⟩
    have h1 := ev_rel he mx hp
    have h2 := ev_rel he my hq
    generalize hv : a.eval x = v at h1
    cases h1
    obtain ⟨A, n, c0, news, hy, hn, hnl, hA, hyl, hcell, hone, hrd⟩ := hnews m H _ hinv h2
    obtain ⟨v', w', hrun, hown, hgr, hat⟩ := run_append_any (P := C.P) (w := m.w) (t := r.t) (ty := o.type) hd hi2 hz2 hs2 hb2 hzs hpos hbp (World.ownsRow_nil m.w 0 r'.t r'.size) (A := A) (m := n) (c := c0) (news := news) hnl hA hcell hone (by rw [hn, Nat.zero_add]; exact hby)
    have := fin m top [] [] (.slice none 0 0) v' w' news hinv hfree rfl (fun l i b hb hl => ⟨hb, (fun v _ k _ e => by cases e)⟩) (fun _ _ _ _ h => h) (fun k hk => (by cases hk)) (by rw [← hn]; simpa using hown) (by simp) hgr hat (by simp) hyl (fun i x j y u hx => by simp at hx) hrd next Q a (ex a _ _ _ (by rw [hv, hy]; exact hrun))
    refine this fun v m' hT hρ hfr hI hR => ?_
    simp only [List.length_nil, Nat.zero_add, List.nil_append] at hI hR
    exact hnext v m' hT (fun l j hn => hρ l j (by simpa using hn)) hfr hI hR
  · -- onto a row of no elements, without room: plain
    obtain ⟨hby, h⟩ := h
    suffices hO : OpStep C H o tm top _ top from ⟨_, top, h, Nat.le_refl _, GenLe.refl _, hO.act (List.prefix_refl _), fun _ => ⟨List.prefix_refl _, hO⟩⟩
    intro m a hinv he hfree next Q hnext
    have h1 := ev_rel he mx hp
    have h2 := ev_rel he my hq
    generalize hv : a.eval x = v at h1
    cases h1 with
    | emp ad =>
      obtain ⟨A, n, c0, news, hy, hn, hnl, hA, hyl, hcell, hone, hrd⟩ := hnews m H _ hinv h2
      rcases Nat.eq_zero_or_pos n with hn0 | hn0
      · subst hn0
        obtain rfl : ys = [] := List.eq_nil_of_length_eq_zero hn.symm
        unfold Oper.wp
        rw [ex a m.w m.w _ (by rw [hv, hy]; exact run_append_emp0 hd hi2 ad)]
        exact hnext _ m (Grow.refl m) (fun _ _ _ => rfl) (fun j b u k h1 h2 => by have := (List.getElem?_eq_some_iff.1 h2).1; omega) hinv (.d _ _ (.sl 0 [] (some ad) 0 0 default (fun _ => undef) rfl (Nat.le_refl _) (by omega) (by omega) (by simp) (fun i x j y hx => by simp at hx) (fun i x j y hx => by simp at hx)))
      · obtain ⟨v', w', hrun, hown, hgr, hat⟩ := run_append_any (P := C.P) (w := m.w) (t := r.t) (ty := o.type) hd hi2 hz2 hs2 hb2 hzs hpos hbp (World.ownsRow_nil m.w 0 r'.t r'.size) (A := A) (m := n) (c := c0) (news := news) hnl hA hcell hone (by rw [hn, Nat.zero_add]; exact hby)
        unfold Oper.wp
        rw [ex a m.w w' v' (by rw [hv, hy, run_append_emp hd hi2 ad hn0 (by rw [hb2]; exact hbp) (by rw [hb2, hn]; exact hby)]; exact hrun)]
        rw [Nat.zero_add, List.nil_append] at hown
        have hheap : ∀ k, k < m.w.heap.size → w'.heap[k]? = m.w.heap[k]? := fun k hk => hgr.block k hk (fun e => by cases e)
        have hT : Grow m ⟨w', m.ρ, m.U⟩ := ⟨hgr.os, hgr.tape, hgr.output, hgr.size, fun k hk => hheap k hk, fun _ _ _ h => h, fun _ _ => Iff.rfl⟩
        have hK := hT.keep
        have hI : Inv ⟨w', m.ρ, m.U⟩ top H := hinv.of_grow hT rfl rfl
        obtain ⟨hfl, hcase⟩ := hown
        rcases hcase with ⟨_, e⟩ | ⟨g, cap, cur, e, _, hg, hnc, hmx, hcs, htk⟩
        · omega
        · subst e
          have hgs : g = m.w.heap.size := by
            rcases hat with h | h
            · cases h
            · exact Option.some.inj h
          refine hnext _ ⟨w', m.ρ, m.U⟩ hT (fun _ _ _ => rfl) (fun j b u k h1 h2 => by have := (List.getElem?_eq_some_iff.1 h2).1; omega) hI (.d _ _ (.sl r'.size ys (some ⟨g, 0, none⟩) n cap ⟨g, 0, none⟩ (fun k => news.getD k undef) hn.symm hnc (by unfold maxLen at hmx; omega) (fun _ => rfl) hyl (fun i x j y hx hy => ?_) (fun i x j y hx hy => ?_)))
          all_goals
            have hi : i < n := by rw [hn]; exact (List.getElem?_eq_some_iff.1 hx).1
            have hj : j < r'.size := by rw [← hyl x (List.mem_of_getElem? hx)]; exact (List.getElem?_eq_some_iff.1 hy).1
            have hij : i * r'.size + j < news.length := by
              have : i * r'.size + r'.size ≤ n * r'.size := by rw [← Nat.succ_mul]; exact Nat.mul_le_mul_right _ hi
              omega
            have hu : news[i * r'.size + j]? = some news[i * r'.size + j] := List.getElem?_eq_getElem hij
          · refine ⟨⟨(Array.getElem?_eq_some_iff.1 hg).1, fun hU => ?_⟩, ?_⟩
            · have : g < m.w.heap.size := hinv.lt _ hU
              omega
            · rw [add_none, Nat.zero_add]
              have hcu : cur[i * r'.size + j]? = some news[i * r'.size + j] := by
                rw [← Array.getElem?_toList, ← hu]
                conv => rhs; rw [← htk]
                rw [List.getElem?_take, if_pos (by omega)]
              simp only [World.cell?, hg, hcu]
              simp [hu]
          · have := (hrd i x j y _ hx hy hu).keep hK
            simpa [hu] using this
  · rename_i i0 n0 h__
    clear h__
    obtain ⟨b, hb, h⟩ := getK_spec.1 h
    split at h
    case h_2 => exact h.elim
    rename_i e' sz xs
    split at h
    case h_2 => exact h.elim
    rename_i he'
    have he' := Nat.eq_of_beq_eq_true he'
    split at h
    case h_2 => exact h.elim
    rename_i hsz'
    have hsz' := Nat.eq_of_beq_eq_true hsz'
    obtain ⟨hn0, hby, h⟩ := h
    obtain ⟨hlt, h⟩ := setK_spec.1 h
    unfold newK at h
    rw [lenK_spec, snocK_spec] at h
    refine ⟨_, _, h, by simp, (GenLe.set hb rfl rfl).trans (GenLe.app _ rfl), fun m a hinv he hfree next Q hnext => ?_, fun e => by cases e⟩
    have h1 := ev_rel he mx hp
    have h2 := ev_rel he my hq
    generalize hv : a.eval x = v at h1
    cases h1 with
    | row _ _ _ N cN A0 hρ hn hc =>
      obtain ⟨hp0, hxs, flat, ho', hrx⟩ := hinv.blk 0 i0 _ hb _ hρ
      have hN : N = xs.length := by
        obtain ⟨A, c, h1, _⟩ := owns_slice ho'
        simp only [Value.slice.injEq] at h1; exact h1.2.1
      subst hN
      subst hn0
      obtain ⟨A, n, c0, news, hy, hn, hnl, hA, hyl, hcell, hone, hrd⟩ := hnews m H _ hinv h2
      rw [he', hsz'] at ho'
      obtain ⟨v', w', hrun, hown, hgr, hat⟩ := run_append_any (P := C.P) (w := m.w) (t := r.t) (ty := o.type) hd hi2 hz2 hs2 hb2 hzs hpos hbp ho' (A := A) (m := n) (c := c0) (news := news) hnl hA hcell hone (by rw [hn]; exact hby)
      have hob : (Value.slice A0 xs.length cN).ownBlock = blkOf (.slice A0 xs.length cN) := ownBlock_blkOf _ ⟨_, _, _, rfl⟩
      have hset : ∀ l i b, getB (top.set i0 .dead) H l i = some b → b.live = true → ¬ (l = 0 ∧ i = i0) ∧ getB top H l i = some b := by
        intro l i b hb' hl'
        by_cases hh : l = 0 ∧ i = i0
        · obtain ⟨rfl, rfl⟩ := hh
          simp [getB, hlt] at hb'
          subst hb'
          cases hl'
        · rw [getB_set_old hh] at hb'
          exact ⟨hh, hb'⟩
      have := fin m (top.set i0 .dead) xs flat (.slice A0 xs.length cN) v' w' news hinv hfree (by simp)
        (fun l i b hb' hl' => by
          obtain ⟨hne, hb2⟩ := hset l i b hb' hl'
          refine ⟨hb2, fun v hv k hk e => hne ?_⟩
          rw [hob] at e
          exact hinv.inj l i b 0 i0 _ v _ k hb2 hl' hb rfl hv hρ hk e)
        (fun i p e c hb' => by
          by_cases hh : i0 = i
          · subst hh; rw [List.getElem?_set_self (List.getElem?_eq_some_iff.1 hb).1] at hb'; cases hb'
          · rwa [List.getElem?_set_ne hh] at hb')
        (fun k hk => by rw [hob] at hk; exact ⟨i0, _, _, hb, rfl, hρ, hk⟩) (by rw [← hn]; exact hown) ho'.1 hgr hat (fun x hx => by rw [← hsz']; exact hxs x hx) hyl (fun i x j y u hx hy hu => hrx i x j y u hx hy (by rw [hsz']; exact hu)) hrd next Q a (ex a _ _ _ (by rw [hv, hy]; exact hrun))
      refine this fun v m' hT hρ' hfr hI hR => ?_
      exact hnext v m' hT (fun l j hn => hρ' l j (by simpa using hn)) (fun k hk => hfr k (by rw [← hsz']; exact hk)) (by rw [hsz']; exact hI) (by simpa using hR)
  · exact h.elim
end Go.Proofs.Ve

/- What the value machine says of what turns memory is so: a row that is written over. -/
set_option linter.all false
namespace Go.Proofs.Ve
open Go

theorem run_copy_any {P : Program} {w : World} {t ty e : TypeId} {i : TypeInfo} (ht : P.underlying t = some (.slice e)) (hi : P.info? e = some i) {g : Nat} {cur : Array Value} {ct : TypeId} (hg : w.heap[g]? = some (.cells cur ct (0, 0))) {n dc : Nat}
    {A : Option Addr} {c : Nat} {news : List Value} (hl : news.length = n * i.size) (hA : A = none → n = 0) (hnews : ∀ a, A = some a → ∀ (j : Nat) u, news[j]? = some u → w.cell? (a.add j) = some u) (h1 : ∀ u ∈ news, u.oneCell' = true) (hfit : news.length ≤ cur.size) :
    (Builtin.copy_ #[t, t] ty #[.slice (some ⟨g, 0, none⟩) n dc, .slice A n c]).run P w = .ok (goInt n) (w.setRow g (news ++ cur.toList.drop news.length).toArray) := by
  have hst := run_storeCells_at P g 0 ct news 0 cur w hg (by simpa using hfit) h1
  cases A with
  | none =>
    obtain rfl := hA rfl
    obtain rfl : news = [] := List.eq_nil_of_length_eq_zero (by simpa using hl)
    simp at hst
    simp [Builtin.copy_, run_underlying ht, Builtin.lenOf, Builtin.firstCells, sizeOf, typeInfo, hi, hst]
  | some a =>
    have hld := run_loadCells_list (P := P) w a news (hnews a rfl)
    rw [hl] at hld
    simp at hst
    simp [Builtin.copy_, run_underlying ht, Builtin.lenOf, Builtin.firstCells, sizeOf, typeInfo, hi, hld, hst]
theorem run_copy_nil0 {P : Program} {w : World} {t ty e : TypeId} {i : TypeInfo} (ht : P.underlying t = some (.slice e)) (hi : P.info? e = some i) {dc : Nat} {A : Option Addr} {c : Nat} :
    (Builtin.copy_ #[t, t] ty #[.slice none 0 dc, .slice A 0 c]).run P w = .ok (goInt 0) w := by
  cases A <;> simp [Builtin.copy_, run_underlying ht, Builtin.lenOf, Builtin.firstCells, sizeOf, typeInfo, hi, loadCells, loadCellsFrom]
theorem copy_step {C : Cx} (hC : C.Ok) {H : List (List Blk)} {o : Oper} {c : Call} (ho : o.op = .call c) (hcl : c.callee = .builtin .copy) {x y : Operand} {t : TypeId} (hx : c.args = #[x, y]) (ht : c.argTypes = #[t, t]) {tm : List PV} {top : List Blk} {p q : PV}
    (hp : ev? tm x = some p) (hq : ev? tm y = some q) {K : PV → List Blk → Prop} (h : copyK C top t p q K) : ∃ pv top', K pv top' ∧ top.length ≤ top'.length ∧ GenLe top top' ∧ ActStep C H o tm top pv top' := by
  have mx : x ∈ o.op.operands.toList := by rw [ho]; simp [Op.operands, Call.operands, hcl, hx]
  have my : y ∈ o.op.operands.toList := by rw [ho]; simp [Op.operands, Call.operands, hcl, hx]
  obtain ⟨r, hr, ht_, h_⟩ := lookK_spec h
  clear h
  subst ht_
  obtain ⟨i1, z1, d, hi1, hs1, hb1, hz1, hzz1, hd, hty⟩ := row_info hC hr
  split at h_
  case h_2 => exact h_.elim
  rename_i e hty0
  obtain ⟨r', hr', ht_, h⟩ := lookK_spec h_
  clear h_
  subst ht_
  obtain ⟨i2, z2, d2, hi2, hs2, hb2, hz2, hzz2, hd2, hty2⟩ := row_info hC hr'
  rw [hty0] at hty
  obtain ⟨e, rfl⟩ : ∃ e, d = .slice e := by cases d <;> simp [tyOf] at hty <;> exact ⟨_, rfl⟩
  simp only [tyOf, Ty.slice.injEq] at hty
  subst hty
  simp only [ifK] at h
  split at h
  case h_2 => exact h.elim
  rename_i hpos
  have hpos : 0 < r'.size := by simpa [Nat.blt_eq] using hpos
  obtain ⟨ys, h1, hnews⟩ := newsK_spec hpos h
  clear h
  split at h1
  case h_2 => exact h1.elim
  rename_i i0 n
  obtain ⟨b, hb, h2⟩ := getK_spec.1 h1
  clear h1
  split at h2
  case h_2 => exact h2.elim
  rename_i e' sz xs
  split at h2
  case h_2 => exact h2.elim
  rename_i hszz
  obtain rfl := Nat.eq_of_beq_eq_true hszz
  obtain ⟨rfl, hyl0, h3⟩ := h2
  obtain ⟨hlt, h4⟩ := setK_spec.1 h3
  refine ⟨_, _, h4, by simp, GenLe.set hb rfl rfl, fun m a hinv he hfree next Q hnext => ?_⟩
  have e1 := ev_rel he mx hp
  have e2 := ev_rel he my hq
  obtain ⟨A, n, c0, news, hy, hn, hnl, hA, hyl, hcell, hone, hrd⟩ := hnews m H _ hinv e2
  have hnx : n = xs.length := by rw [hn, hyl0]
  subst hnx
  generalize hv : a.eval x = v at e1
  have ex : ∀ (w w' : World) (u : Value), (Builtin.copy_ #[r.t, r.t] o.type #[v, a.eval y]).run C.P w = .ok u w' → (execOp a.eval o).run C.P w = .ok (.value u) w' := fun w w' u hu => by
    rw [← hv] at hu
    simp [execOp, ho, resolve, hcl, hx, ht, invoke, builtin, hu]
  cases e1 with
  | row _ _ _ N cN A0 hρ hnN hc =>
    obtain ⟨hp0, hxs, flat, hown, hrx⟩ := hinv.blk 0 i0 _ hb _ hρ
    have hN : N = xs.length := by
      obtain ⟨A, c, h1, _⟩ := owns_slice hown
      simp only [Value.slice.injEq] at h1; exact h1.2.1
    subst hN
    obtain ⟨hfl, hform⟩ := hown
    rcases hform with ⟨q1, q2⟩ | ⟨g, cap, cur, q1, hbase, hg, hcap, hmax, hcur, htake⟩
    · -- nothing
      simp only [Value.slice.injEq] at q1
      obtain ⟨rfl, q3, q4⟩ := q1
      have hx0 : xs = [] := List.eq_nil_of_length_eq_zero q3
      subst hx0
      have hy0 : ys = [] := List.eq_nil_of_length_eq_zero hyl0
      subst hy0
      unfold Oper.wp
      rw [ex _ _ _ (by rw [hy]; exact run_copy_nil0 hd (by rw [hi2]))]
      have htop : top.set i0 (.row e' r'.size []) = top := by
        refine List.ext_getElem? fun j => ?_
        rw [List.getElem?_set]
        split
        · rename_i h; subst h; first | exact hb.symm | (rw [if_pos hlt]; exact hb.symm)
        · rfl
      exact hnext _ m ((Grow.refl m).turn top) (fun _ _ _ => rfl) (fun k hk => .inr (by rw [htop] at hk; exact hk)) (by rw [htop]; exact hinv) (.d _ _ (.int .i64 0))
    · simp only [Value.slice.injEq] at q1
      obtain ⟨rfl, _, rfl⟩ := q1
      have hnl' : news.length = xs.length * i2.size := by rw [hnl, hs2]
      have hfit : news.length ≤ cur.size := by rw [hnl, hcur]; exact Nat.mul_le_mul_right _ hcap
      have hrun := run_copy_any (P := C.P) (w := m.w) (t := r.t) (ty := o.type) hd hi2 hg (n := xs.length) (dc := cN) (A := A) (c := c0) hnl' hA hcell hone hfit
      unfold Oper.wp
      rw [ex _ _ _ (by rw [hy]; exact hrun)]
      have hset := inv_set hinv hb rfl hρ rfl (b := .row e' r'.size ys) rfl
        (w' := m.w.setRow g (news ++ cur.toList.drop news.length).toArray) rfl rfl rfl (by simp) (fun k hk => setRow_other _ _ _ _ hk) (fun k hk => hk) rfl (fun hK => by
          intro v' hv'
          rw [show (⟨_, m.ρ, m.U⟩ : M).ρ 0 i0 = m.ρ 0 i0 from rfl, hρ] at hv'
          cases hv'
          refine ⟨hp0, hyl, news, ⟨by rw [hnl, hyl0], .inr ⟨g, cN, _, by rw [hyl0], Nat.zero_le _, setRow_heap _ _ _ _ _ _ hg, by rw [hyl0]; exact hcap, hmax, ?_, ?_⟩⟩, fun i x j y u hx hy hu => (hrd i x j y u hx hy hu).keep hK⟩
          · simp; omega
          · rw [hyl0, ← hnl]; simp)
      exact hnext _ _ hset.1 (fun _ _ _ => rfl) hset.2.2 hset.2.1 (.d _ _ (.int .i64 _))
end Go.Proofs.Ve

/- A call to which rows are given: what the value machine says of it is so. -/
set_option linter.all false
namespace Go.Proofs.Ve
open Go

def giveM (m : M) (bs : List Nat) : M := ⟨m.w, fun l i => match l with | 0 => (bs[i]?).bind (m.ρ 0) | l + 1 => m.ρ l i, m.U⟩
theorem keep_lent_give (m : M) (bs : List Nat) : Keep (lentM m []) (giveM m bs) := by
  refine ⟨fun l i v h => ?_, Nat.le_refl _, fun k hk => ⟨fun hu => hk.2 ⟨hu, ?_⟩, rfl⟩⟩
  · cases l with
    | zero => cases h
    | succ l => exact h
  · rintro ⟨i, v, hi, _⟩; cases hi

theorem giveCells_spec {top : List Blk} : ∀ (ps : List PV) (bs0 : List Nat) (K : List PV → List Nat → List RowB → Prop), bs0.Nodup → giveCellsK top ps bs0 K →
    ∃ ps' bs G, K ps' bs G ∧ bs.length = G.length ∧ (bs0 ++ bs).Nodup ∧ (∀ (g : Nat) i, bs[g]? = some i → ∃ r, G[g]? = some r ∧ top[i]? = some r.blk) ∧
      ∀ (m : M) (H : List (List Blk)) (ba : List Nat), (bs0 ++ bs) <+: ba → Inv m top H → ps'.length = ps.length ∧ ∀ (j : Nat) p' v, ps'[j]? = some p' → (∀ p, ps[j]? = some p → RP m p v) → RP (giveM m ba) p' v
  | [], bs0, K, hnd, h => ⟨[], [], [], h, rfl, by simpa using hnd, fun g i hg => by simp at hg, fun m H ba _ _ => ⟨rfl, fun j p' v hp => by simp at hp⟩⟩
  | p :: ps, bs0, K, hnd, h => by
    simp only [giveCellsK, giveOneK] at h
    split at h
    · rename_i i n
      obtain ⟨b, hb, h⟩ := getK_spec.1 h
      split at h
      case h_2 => exact h.elim
      rename_i e sz xs
      split at h
      · exact h.elim
      · rename_i hno
        split at h
        · exact h.elim
        rename_i hsz0
        have hb : top[i]? = some (RowB.blk ⟨e, sz, xs⟩) := by rw [hb]; unfold RowB.blk; rw [hsz0]
        rw [lenK_spec] at h
        rw [snocK_spec] at h
        have hni : i ∉ bs0 := fun hi => by
          rw [List.any_eq_false] at hno
          exact hno i hi (by simp)
        obtain ⟨ps', bs, G, hk, h1, h2, h3, h4⟩ := giveCells_spec ps _ _ (by
          rw [List.nodup_append]
          refine ⟨hnd, by simp, fun a ha b hb e => ?_⟩
          simp at hb; subst hb; subst e; exact hni ha) h
        refine ⟨_, _, _, hk, by simp [h1], by simpa using h2, fun g j hg => ?_, fun m H ba hpre hinv => ?_⟩
        · cases g with
          | zero => simp at hg; subst hg; exact ⟨_, rfl, hb⟩
          | succ g => exact h3 g j (by simpa using hg)
        · obtain ⟨q1, q2⟩ := h4 m H ba (by simpa using hpre) hinv
          refine ⟨by simp [q1], fun j p' v hp hv => ?_⟩
          cases j with
          | zero =>
            simp at hp
            subst hp
            have := hv _ rfl
            cases this with
            | row _ _ _ N c A hρ hn hc =>
              refine .row _ _ _ N c A ?_ hn hc
              obtain ⟨t, rfl⟩ := hpre
              simp [giveM, hρ]
          | succ j => exact q2 j p' v (by simpa using hp) (fun p0 h0 => hv p0 (by simpa using h0))
    · obtain ⟨ps', bs, G, hk, h1, h2, h3, h4⟩ := giveCells_spec ps _ _ hnd h
      refine ⟨_, _, _, hk, h1, h2, h3, fun m H ba hpre hinv => ?_⟩
      obtain ⟨q1, q2⟩ := h4 m H ba hpre hinv
      refine ⟨by simp [q1], fun j p2 v hp hv => ?_⟩
      cases j with
      | zero =>
        simp at hp
        subst hp
        have := hv _ rfl
        cases this
        exact .nils
      | succ j => exact q2 j p2 v (by simpa using hp) (fun p0 h0 => hv p0 (by simpa using h0))
    · obtain ⟨p', b1, h, _, _, hr⟩ := argK_spec p [] _ h
      split at h
      case h_2 => exact h.elim
      obtain ⟨ps', bs, G, hk, h1, h2, h3, h4⟩ := giveCells_spec ps _ _ hnd h
      refine ⟨_, _, _, hk, h1, h2, h3, fun m H ba hpre hinv => ?_⟩
      obtain ⟨q1, q2⟩ := h4 m H ba hpre hinv
      refine ⟨by simp [q1], fun j p2 v hp hv => ?_⟩
      cases j with
      | zero =>
        simp at hp
        subst hp
        exact (hr m H [] v (fun i hi => hi) hinv (hv p rfl)).keep (keep_lent_give m ba)
      | succ j => exact q2 j p2 v (by simpa using hp) (fun p0 h0 => hv p0 (by simpa using h0))

theorem giveArg_spec {top : List Blk} {p : PV} {bs0 : List Nat} {K : PV → List Nat → List RowB → Prop} (hnd : bs0.Nodup) (h : giveArgK top p bs0 K) :
    ∃ p' bs G, K p' bs G ∧ bs.length = G.length ∧ (bs0 ++ bs).Nodup ∧ (∀ (g : Nat) i, bs[g]? = some i → ∃ r, G[g]? = some r ∧ top[i]? = some r.blk) ∧
      ∀ (m : M) (H : List (List Blk)) (ba : List Nat) (v : Value), (bs0 ++ bs) <+: ba → Inv m top H → RP m p v → RP (giveM m ba) p' v := by
  unfold giveArgK at h
  split at h
  · obtain ⟨cs', bs, G, hk, h1, h2, h3, h4⟩ := giveCells_spec _ _ _ hnd h
    refine ⟨_, _, _, hk, h1, h2, h3, fun m H ba v hpre hinv hv => ?_⟩
    obtain ⟨q1, q2⟩ := h4 m H ba hpre hinv
    cases hv with
    | agg cs vs e1 e2 =>
      refine .agg _ _ (q1.trans e1) fun j p' v hp hv => q2 j p' v hp fun p hp0 => e2 j p v hp0 hv
  · obtain ⟨cs', bs, G, hk, h1, h2, h3, h4⟩ := giveCells_spec _ _ _ hnd h
    split at hk
    · refine ⟨_, _, _, hk, h1, h2, h3, fun m H ba v hpre hinv hv => ?_⟩
      obtain ⟨q1, q2⟩ := h4 m H ba hpre hinv
      exact q2 0 _ v rfl fun p hp0 => by simp at hp0; subst hp0; exact hv
    · exact hk.elim
theorem giveArgs_spec {top : List Blk} : ∀ (ps : List PV) (bs0 : List Nat) (K : List PV → List Nat → List RowB → Prop), bs0.Nodup → giveArgsK top ps bs0 K →
    ∃ ps' bs G, K ps' bs G ∧ bs.length = G.length ∧ (bs0 ++ bs).Nodup ∧ (∀ (g : Nat) i, bs[g]? = some i → ∃ r, G[g]? = some r ∧ top[i]? = some r.blk) ∧
      ∀ (m : M) (H : List (List Blk)) (ba : List Nat), (bs0 ++ bs) <+: ba → Inv m top H → ps'.length = ps.length ∧ ∀ (j : Nat) p' v, ps'[j]? = some p' → (∀ p, ps[j]? = some p → RP m p v) → RP (giveM m ba) p' v
  | [], bs0, K, hnd, h => ⟨[], [], [], h, rfl, by simpa using hnd, fun g i hg => by simp at hg, fun m H ba _ _ => ⟨rfl, fun j p' v hp => by simp at hp⟩⟩
  | p :: ps, bs0, K, hnd, h => by
    rw [giveArgsK_cons] at h
    obtain ⟨p', b1, G1, h, g1, g2, g3, g4⟩ := giveArg_spec hnd h
    rw [appK_spec] at h
    obtain ⟨ps', b2, G2, h, h1, h2, h3, h4⟩ := giveArgs_spec ps _ _ g2 h
    rw [appK_spec, appK_spec] at h
    rw [List.append_assoc] at h2
    refine ⟨_, _, _, h, by simp [g1, h1], h2, fun g i hg => ?_, fun m H ba hpre hinv => ?_⟩
    · rcases Nat.lt_or_ge g b1.length with hlt | hge
      · rw [List.getElem?_append_left hlt] at hg
        obtain ⟨r, q1, q2⟩ := g3 g i hg
        exact ⟨r, by rw [List.getElem?_append_left (by omega)]; exact q1, q2⟩
      · rw [List.getElem?_append_right hge] at hg
        obtain ⟨r, q1, q2⟩ := h3 _ i hg
        exact ⟨r, by rw [List.getElem?_append_right (by omega), ← g1]; exact q1, q2⟩
    · obtain ⟨q1, q2⟩ := h4 m H ba (by rw [List.append_assoc]; exact hpre) hinv
      refine ⟨by simp [q1], fun j p2 v hp hv => ?_⟩
      cases j with
      | zero =>
        simp at hp
        subst hp
        exact g4 m H ba v (List.IsPrefix.trans ⟨b2, by simp⟩ hpre) hinv (hv p rfl)
      | succ j => exact q2 j p2 v (by simpa using hp) (fun p0 h0 => hv p0 (by simpa using h0))

theorem backK_spec : ∀ (is : List Nat) (gs : List (Option RowB)) (top : List Blk) (K : List Blk → Prop), is.Nodup → backK top is gs K →
    ∃ top2, K top2 ∧ is.length = gs.length ∧ top2.length = top.length ∧ (∀ i, i ∉ is → top2[i]? = top[i]?) ∧ ∀ (g : Nat) i, is[g]? = some i → ∃ b, gs[g]? = some b ∧ top2[i]? = some (gblk b)
  | [], [], top, K, _, h => ⟨top, h, rfl, rfl, fun i _ => rfl, fun g i hg => by simp at hg⟩
  | [], _ :: _, top, K, _, h => h.elim
  | _ :: _, [], top, K, _, h => h.elim
  | i :: is, g :: gs, top, K, hnd, h => by
    rw [List.nodup_cons] at hnd
    obtain ⟨top2, h, h1, h2, h3, h4⟩ := backK_spec is gs top _ hnd.2 h
    obtain ⟨hlt, h⟩ := setK_spec.1 h
    refine ⟨_, h, by simp [h1], by simp [h2], fun j hj => ?_, fun k j hk => ?_⟩
    · rw [List.mem_cons, not_or] at hj
      rw [List.getElem?_set_ne (fun e => hj.1 e.symm)]
      exact h3 j hj.2
    · cases k with
      | zero => simp at hk; subst hk; exact ⟨g, rfl, by simp [hlt]⟩
      | succ k =>
        have hk' : is[k]? = some j := by simpa using hk
        obtain ⟨b, hb, ht⟩ := h4 k j hk'
        refine ⟨b, by simpa using hb, ?_⟩
        rw [List.getElem?_set_ne]
        · exact ht
        · rintro rfl; exact hnd.1 (List.mem_of_getElem? hk')

theorem give_spec {C : Cx} {H : List (List Blk)} {top : List Blk} {f : Nat} {args : List PV} {K : PV → List Blk → Prop} (h : giveK C H top f args K) :
    ∃ pv top', K pv top' ∧ top.length ≤ top'.length ∧ GenLe top top' ∧ ∀ (m : M) (vs : Array Value), Inv m top H → args.length = vs.size → (∀ (j : Nat) p v, args[j]? = some p → vs[j]? = some v → RP m p v) → (∀ j, top.length ≤ j → m.ρ 0 j = none) →
      Calls C.P f vs m.w fun e w' => ∃ v m', e = .returned v ∧ m'.w = w' ∧ Turn m m' top ∧ (∀ l j, ¬ (l = 0 ∧ top.length ≤ j ∧ j < top'.length) → m'.ρ l j = m.ρ l j) ∧
        (∀ k, Mine m' top' k → m.w.heap.size ≤ k ∨ Mine m top k) ∧ Inv m' top' H ∧ RP m' pv v := by
  obtain ⟨args', bs, G, h, hbl, hnd, hbs, hargs⟩ := giveArgs_spec args [] _ List.nodup_nil h
  rw [List.nil_append] at hnd
  obtain ⟨top1, h, hl1, hd1, hs1⟩ := hideK_spec bs _ h
  obtain ⟨r, G', N, hcall, h⟩ := h
  rw [lenK_spec, lenK_spec] at h
  obtain ⟨pv, h, hpv⟩ := adoptK_spec r _ h
  obtain ⟨top2, h, hg1, hl2, hs2, hb2⟩ := backK_spec bs G' top _ hnd h
  rw [appK_spec] at h
  unfold CallEqG at hcall
  obtain ⟨hgl, hcall⟩ := hcall
  have hNl : (blksOf N).length = N.length := by rw [blksOf_eq]; simp
  have hgen : GenLe top (top2 ++ blksOf N) := by
    refine GenLe.trans ⟨fun i Y st hi => ?_, by omega, fun j b' hj hb hl => ?_⟩ (GenLe.app _ (noGens_blks N))
    · by_cases hb : i ∈ bs
      · obtain ⟨g, hg⟩ := List.mem_iff_getElem?.1 hb
        obtain ⟨b, _, h2⟩ := hb2 g i hg
        rw [h2] at hi
        cases b with
        | none => cases hi
        | some r =>
          have := r.noGen
          rw [show gblk (some r) = r.blk from rfl] at hi
          cases hi' : r.blk <;> rw [hi'] at hi this <;> first | (cases hi; done) | (cases this; done)
      · rwa [hs2 i hb] at hi
    · by_cases hb' : j ∈ bs
      · obtain ⟨g, hg⟩ := List.mem_iff_getElem?.1 hb'
        obtain ⟨r, _, h2⟩ := hbs g j hg
        exact ⟨_, h2, r.live⟩
      · rw [hs2 j hb'] at hb; exact ⟨b', hb, hl⟩
  refine ⟨pv, _, h, by simp [hl2], hgen, fun m vs hinv hlen hrel hfree => ?_⟩
  obtain ⟨hal, har⟩ := hargs m H bs (by simp) hinv
  have inBs : ∀ i, i ∈ bs → ∃ (g : Nat) (r : RowB), bs[g]? = some i ∧ G[g]? = some r ∧ top[i]? = some r.blk := fun i hi => by
    obtain ⟨g, hg⟩ := List.mem_iff_getElem?.1 hi
    obtain ⟨r, h1, h2⟩ := hbs g i hg
    exact ⟨g, r, hg, h1, h2⟩
  -- as the callee sees it
  have phi : ∀ l i b, getB (G.map RowB.blk) (top1 :: H) l i = some b → b.live = true → ∃ l' i', getB top H l' i' = some b ∧ (giveM m bs).ρ l i = m.ρ l' i' ∧ ((l = 0 ∧ l' = 0 ∧ bs[i]? = some i') ∨ (l = l' + 1 ∧ i = i' ∧ (l' = 0 → i ∉ bs))) := by
    intro l i b hb hl
    cases l with
    | zero =>
      simp only [getB, List.getElem?_map] at hb
      obtain ⟨r, hr, rfl⟩ := Option.map_eq_some_iff.1 hb
      have hi : i < bs.length := by rw [hbl]; exact (List.getElem?_eq_some_iff.1 hr).1
      have hbi := List.getElem?_eq_getElem hi
      obtain ⟨r', h1, h2⟩ := hbs i _ hbi
      rw [hr] at h1; cases h1
      exact ⟨0, bs[i], h2, by simp [giveM, hbi], .inl ⟨rfl, rfl, hbi⟩⟩
    | succ l =>
      cases l with
      | zero =>
        have hb' : top1[i]? = some b := by simpa [getB] using hb
        have hni : i ∉ bs := fun hi => by obtain ⟨_, _, _, _, h9⟩ := inBs i hi; rw [hd1 i hi (List.getElem?_eq_some_iff.1 h9).1] at hb'; cases hb'; cases hl
        exact ⟨0, i, by rw [getB, ← hs1 i hni]; exact hb', rfl, .inr ⟨rfl, rfl, fun _ => hni⟩⟩
      | succ l => exact ⟨l + 1, i, by simpa [getB] using hb, rfl, .inr ⟨rfl, rfl, fun h => by cases h⟩⟩
  have hinv2 : Inv (giveM m bs) (G.map RowB.blk) (top1 :: H) := by
    refine ⟨fun l i b hb => ?_, fun l i b l' i' b' v v' k h1 h2 h3 h4 h5 h6 h7 h8 => ?_, fun l i b v k h1 h2 h3 h4 => ?_, hinv.lt, Views.none fun i p e c h => by
      rw [List.getElem?_map] at h
      obtain ⟨r, _, hr⟩ := Option.map_eq_some_iff.1 h
      have := r.noSub
      rw [hr] at this; cases this⟩
    · cases hlv : b.live with
      | false => cases b <;> simp [Blk.live] at hlv <;> exact True.intro
      | true =>
        obtain ⟨l', i', h1, h2, h3⟩ := phi l i b hb hlv
        have hbo := hinv.blk l' i' b h1
        have hzero : l = 0 → BlkOk (giveM m bs) l i b := fun hl => by
          subst hl
          simp only [getB, List.getElem?_map] at hb
          obtain ⟨r, _, rfl⟩ := Option.map_eq_some_iff.1 hb
          exact rowB_keep r h2 rfl (fun _ _ _ _ _ h => h) hbo
        cases b with
        | dead => trivial
        | gen Y st => trivial
        | sub _ _ _ => trivial
        | row e sz xs => exact fun v hv => hbo v (h2 ▸ hv)
        | deep e sz xs => exact fun v hv => hbo v (h2 ▸ hv)
        | box cs =>
          intro v hv
          rw [h2] at hv
          obtain ⟨g, us, e, q1, q2, q3, q4⟩ := hbo v hv
          rcases h3 with ⟨rfl, _, _⟩ | ⟨rfl, rfl, _⟩
          · exact hzero rfl v (by rw [h2]; exact hv)
          · exact ⟨g, us, e, q1, q2, q3, q4⟩
    · obtain ⟨a, b1, c1, c2, c3⟩ := phi l i b h1 h2
      obtain ⟨a', b1', c1', c2', c3'⟩ := phi l' i' b' h3 h4
      rw [c2] at h5; rw [c2'] at h6
      obtain ⟨rfl, rfl⟩ := hinv.inj a b1 b a' b1' b' v v' k c1 h2 c1' h4 h5 h6 h7 h8
      rcases c3 with ⟨rfl, rfl, d1⟩ | ⟨rfl, rfl, d1⟩ <;> rcases c3' with ⟨rfl, e0, e1⟩ | ⟨rfl, rfl, e1⟩
      · refine ⟨rfl, ?_⟩
        have hi := (List.getElem?_eq_some_iff.1 d1).1
        have hi' := (List.getElem?_eq_some_iff.1 e1).1
        exact (List.getElem?_inj hi hnd).1 (d1.trans e1.symm)
      · exact absurd (List.mem_of_getElem? d1) (e1 rfl)
      · subst e0; exact absurd (List.mem_of_getElem? e1) (d1 rfl)
      · exact ⟨rfl, rfl⟩
    · obtain ⟨a, b1, c1, c2, _⟩ := phi l i b h1 h2
      rw [c2] at h3
      exact hinv.own a b1 b v k c1 h2 h3 h4
  refine (hcall (giveM m bs) vs hinv2 (fun i hi => by simp [giveM, List.getElem?_eq_none (show bs.length ≤ i by omega)]) (hal.trans hlen) (fun j p v hp hv => har j p v hp (fun p0 h0 => hrel j p0 v h0 hv))).mono ?_
  rintro e w' ⟨v, m3, rfl, rfl, hs, hnames, hi3, hr⟩
  -- what was given is the caller's
  have mine : ∀ k, Mine (giveM m bs) (G.map RowB.blk) k → Mine m top k := by
    rintro k ⟨i, b, u, h1, h2, h3, h4⟩
    obtain ⟨l', i', c1, c2, c3⟩ := phi 0 i b (by simpa [getB] using h1) h2
    rcases c3 with ⟨_, rfl, _⟩ | ⟨h, _⟩
    · exact ⟨i', b, u, c1, h2, by rw [← c2]; exact h3, h4⟩
    · cases h
  have hup : ∀ l i, m3.ρ (l + 1) i = m.ρ l i := fun l i => hs.up l i
  let m' : M := ⟨m3.w, fun l i => match l with | 0 => if top.length ≤ i then (if i < top.length + N.length then m3.ρ 0 (i - top.length) else none) else m.ρ 0 i | l + 1 => m.ρ (l + 1) i, m3.U⟩
  have hold : ∀ l i, ¬ (l = 0 ∧ top.length ≤ i ∧ i < top.length + N.length) → m'.ρ l i = m.ρ l i := by
    intro l i hn
    cases l with
    | succ l => rfl
    | zero =>
      show (if top.length ≤ i then (if i < top.length + N.length then m3.ρ 0 (i - top.length) else none) else m.ρ 0 i) = m.ρ 0 i
      split
      · rename_i h1
        rw [if_neg (fun h2 => hn ⟨rfl, h1, h2⟩), hfree i h1]
      · rfl
  have hnew : ∀ i, i < N.length → m'.ρ 0 (top.length + i) = m3.ρ 0 i := by
    intro i hi
    show (if top.length ≤ top.length + i then (if top.length + i < top.length + N.length then m3.ρ 0 (top.length + i - top.length) else none) else m.ρ 0 (top.length + i)) = _
    rw [if_pos (by omega), if_pos (by omega), show top.length + i - top.length = i by omega]
  have hT : Turn m m' top := by
    refine ⟨hs.os, hs.tape, hs.output, hs.size, fun k hk hnm => hs.heap k hk (fun h => hnm (mine k h)) (fun h => h), fun l i u hu => ?_, fun k hk => hs.U k hk⟩
    rw [hold l i]
    · exact hu
    · rintro ⟨rfl, h1, _⟩; rw [hfree i h1] at hu; cases hu
  have hK := hT.keep hinv
  -- where a block of the caller's stands for the callee
  have psi : ∀ l i b, getB (top2 ++ blksOf N) H l i = some b → b.live = true → ∃ L I, getB (N.map RowB.blk ++ G'.map gblk) (top1 :: H) L I = some b ∧ m'.ρ l i = m3.ρ L I ∧
      ((l = 0 ∧ L = 0 ∧ i = top.length + I ∧ I < N.length) ∨ (l = 0 ∧ L = 0 ∧ ∃ g, I = N.length + g ∧ bs[g]? = some i) ∨ (L = l + 1 ∧ I = i ∧ (l = 0 → i < top.length ∧ i ∉ bs))) := by
    intro l i b hb hl
    cases l with
    | succ l => exact ⟨l + 2, i, by simpa [getB] using hb, (hup (l + 1) i).symm, .inr (.inr ⟨rfl, rfl, fun h => by cases h⟩)⟩
    | zero =>
      simp only [getB] at hb
      rcases Nat.lt_or_ge i top2.length with h1 | h1
      · rw [List.getElem?_append_left h1] at hb
        have hlt : i < top.length := by omega
        have hρ : m'.ρ 0 i = m.ρ 0 i := hold 0 i (by omega)
        by_cases hi : i ∈ bs
        · obtain ⟨g, hg⟩ := List.mem_iff_getElem?.1 hi
          obtain ⟨b', q1, q2⟩ := hb2 g i hg
          rw [q2] at hb; cases hb
          have hgl' : g < G.length := by rw [← hbl]; exact (List.getElem?_eq_some_iff.1 hg).1
          refine ⟨0, N.length + g, ?_, ?_, .inr (.inl ⟨rfl, rfl, g, rfl, hg⟩)⟩
          · simp only [getB]
            rw [List.getElem?_append_right (by simp), List.getElem?_map]
            simp [q1]
          · rw [hρ, hnames g hgl']; simp [giveM, hg]
        · refine ⟨1, i, ?_, by rw [hρ, hup], .inr (.inr ⟨rfl, rfl, fun _ => ⟨hlt, hi⟩⟩)⟩
          simp only [getB, List.getElem?_cons_zero, Option.bind_some]
          rw [hs1 i hi, ← hs2 i hi]; exact hb
      · rw [List.getElem?_append_right h1, blksOf_eq] at hb
        have hlt : i - top2.length < N.length := by have := (List.getElem?_eq_some_iff.1 hb).1; simpa using this
        refine ⟨0, i - top2.length, ?_, ?_, .inl ⟨rfl, rfl, by omega, hlt⟩⟩
        · simp only [getB]; rw [List.getElem?_append_left (by simpa using hlt)]; exact hb
        · have := hnew _ hlt
          rwa [show top.length + (i - top2.length) = i by omega] at this
  refine ⟨v, m', rfl, rfl, hT, fun l j hj => hold l j (fun h => hj ⟨h.1, h.2.1, by simp [hl2, hNl]; omega⟩), fun k hm => ?_, ⟨fun l i b hb => ?_, fun l i b l' i' b' v1 v2 k h1 h2 h3 h4 h5 h6 h7 h8 => ?_, fun l i b v1 k h1 h2 h3 h4 => ?_, hi3.lt, ?_⟩, hpv m3 m' v (fun i u hi hu => by rw [hnew i (by rwa [hNl] at hi)]; exact hu) (.inr fun x v hx => hx) hr⟩
  · obtain ⟨j, b, u, hb, hl, hu, hk⟩ := hm
    obtain ⟨L, I, c1, c2, c3⟩ := psi 0 j b hb hl
    have near : L = 0 → m.w.heap.size ≤ k ∨ Mine m top k := fun h => by
      subst h
      exact (hs.fresh k ⟨I, b, u, c1, hl, by rw [← c2]; exact hu, hk⟩).imp id (mine k)
    rcases c3 with ⟨_, h, _⟩ | ⟨_, h, _⟩ | ⟨rfl, rfl, hh⟩
    · exact near h
    · exact near h
    · obtain ⟨h1, h2⟩ := hh rfl
      have hb1 : getB (G.map RowB.blk) (top1 :: H) 1 I = some b := by simpa [getB] using c1
      have hu1 : (giveM m bs).ρ 1 I = some u := by rw [← hu, hold 0 I (by omega)]; rfl
      have hk1 : b.has m.w u k := hinv2.back hb1 hl hu1 (fun k' hU hk' => hs.heap k' (hinv2.lt k' hU) (fun ⟨i2, b2, v2, d1, d2, d3, d4⟩ => by
        have := hinv2.inj 1 I b 0 i2 b2 u v2 k' hb1 hl (show getB (G.map RowB.blk) (top1 :: H) 0 i2 = some b2 from d1) d2 hu1 d3 hk' d4
        cases this.1) (fun h => h)) hk
      refine .inr ⟨I, b, u, ?_, hl, hu1, hk1⟩
      have : top1[I]? = some b := by simpa [getB] using hb1
      rwa [hs1 I h2] at this
  · cases hlv : b.live with
    | false => cases b <;> simp [Blk.live] at hlv <;> exact True.intro
    | true =>
      obtain ⟨L, I, c1, c2, c3⟩ := psi l i b hb hlv
      have hbo := hi3.blk L I b c1
      have hzero : L = 0 → BlkOk m' l i b := fun hL => by
        subst hL
        simp only [getB] at c1
        rcases Nat.lt_or_ge I (N.map RowB.blk).length with h1 | h1
        · rw [List.getElem?_append_left h1, List.getElem?_map] at c1
          obtain ⟨r, _, rfl⟩ := Option.map_eq_some_iff.1 c1
          exact rowB_keep (m := m3) (m' := m') r c2 rfl (fun _ _ _ _ _ h => h) hbo
        · rw [List.getElem?_append_right h1, List.getElem?_map] at c1
          obtain ⟨r, _, hr⟩ := Option.map_eq_some_iff.1 c1
          cases r with
          | none => rw [← hr] at hlv; cases hlv
          | some r => rw [← hr] at hbo ⊢; exact rowB_keep (m := m3) (m' := m') r c2 rfl (fun _ _ _ _ _ h => h) hbo
      cases b with
      | dead => trivial
      | gen Y st => trivial
      | sub _ _ _ => trivial
      | row e sz xs => exact fun u hu => hbo u (c2 ▸ hu)
      | deep e sz xs => exact fun u hu => hbo u (c2 ▸ hu)
      | box cs =>
        intro u hu
        rw [c2] at hu
        obtain ⟨g, us, e, q1, q2, q3, q4⟩ := hbo u hu
        rcases c3 with ⟨_, rfl, _, hlt⟩ | ⟨_, rfl, g', rfl, _⟩ | ⟨rfl, rfl, hh⟩
        · exact hzero rfl _ (by rw [c2]; exact hu)
        · exact hzero rfl _ (by rw [c2]; exact hu)
        · refine ⟨g, us, e, q1, q2, q3, fun j p x hp hx => (q4 j p x hp hx).keep ?_⟩
          refine ⟨fun a i' u' hu' => ?_, Nat.le_refl _, fun k hk => ⟨hk.2, rfl⟩⟩
          have h1 : m.ρ (a + l) i' = some u' := by rw [← hup]; exact hu'
          exact hT.ρ _ _ _ h1
  · obtain ⟨L, I, c1, c2, c3⟩ := psi l i b h1 h2
    obtain ⟨L', I', c1', c2', c3'⟩ := psi l' i' b' h3 h4
    rw [c2] at h5; rw [c2'] at h6
    obtain ⟨rfl, rfl⟩ := hi3.inj L I b L' I' b' v1 v2 k c1 h2 c1' h4 h5 h6 h7 h8
    rcases c3 with ⟨rfl, rfl, rfl, d⟩ | ⟨rfl, rfl, g, rfl, d⟩ | ⟨rfl, rfl, d⟩ <;> rcases c3' with ⟨rfl, e0, e1, e2⟩ | ⟨rfl, e0, g', e1, e2⟩ | ⟨e0, e1, e2⟩
    · exact ⟨rfl, by omega⟩
    · omega
    · cases e0
    · omega
    · have : g = g' := by omega
      subst this
      rw [d] at e2; cases e2; exact ⟨rfl, rfl⟩
    · cases e0
    · cases e0
    · cases e0
    · exact ⟨by omega, e1⟩
  · obtain ⟨L, I, c1, c2, _⟩ := psi l i b h1 h2
    rw [c2] at h3
    exact hi3.own L I b v1 k c1 h2 h3 h4
  · have here : ∀ (i : Nat) b, (top2 ++ blksOf N)[i]? = some b → b.vd = true → top[i]? = some b ∧ i < top.length ∧ i ∉ bs := fun i b hb hvd => by
      rcases Nat.lt_or_ge i top2.length with h1 | h1
      · rw [List.getElem?_append_left h1] at hb
        by_cases hi : i ∈ bs
        · obtain ⟨g, hg⟩ := List.mem_iff_getElem?.1 hi
          obtain ⟨b', _, q2⟩ := hb2 g i hg
          rw [q2] at hb; cases hb
          cases b' with
          | none => cases hvd
          | some r => rw [show (gblk (some r)).vd = r.blk.vd from rfl, r.shal] at hvd; cases hvd
        · exact ⟨by rw [← hs2 i hi]; exact hb, by omega, hi⟩
      · rw [List.getElem?_append_right h1, blksOf_eq, List.getElem?_map] at hb
        obtain ⟨r, _, rfl⟩ := Option.map_eq_some_iff.1 hb
        rw [r.shal] at hvd; cases hvd
    refine hinv.sub.of (fun i p e c v1 hb hv => ?_) (fun p V hV => hT.ρ 0 p V hV) (fun p et sz xs V hb hV => ?_)
    · obtain ⟨h1, h2, h3⟩ := here i _ hb rfl
      exact ⟨h1, by rw [← hold 0 i (by omega)]; exact hv⟩
    · obtain ⟨h1, h2, h3⟩ := here p _ hb rfl
      refine ⟨h1, fun k hk => hs.heap k (hinv.lt k (hinv.own 0 p _ V k h1 rfl hV (Blk.has_head hk))) (fun hm => ?_) (fun h => h)⟩
      obtain ⟨i2, b2, v2, d1, d2, d3, d4⟩ := hm
      have hp1 : getB (G.map RowB.blk) (top1 :: H) 1 p = some (.deep et sz xs) := by
        simp only [getB, List.getElem?_cons_zero, Option.bind_some]
        rw [hs1 p h3]; exact h1
      have := hinv2.inj 1 p _ 0 i2 b2 V v2 k hp1 rfl (show getB (G.map RowB.blk) (top1 :: H) 0 i2 = some b2 from d1) d2 hV d3 (Blk.has_head hk) d4
      cases this.1
end Go.Proofs.Ve
