/- What the value machine says of an operation is so: reading memory, addresses. -/
import Derived.Test.YtpmhiiembbfbeaaV5
set_option linter.all false
namespace Go.Proofs.Ve
open Go

theorem add_none (g o j : Nat) : (⟨g, o, none⟩ : Addr).add j = ⟨g, o + j, none⟩ := by unfold Addr.add; split <;> simp_all
theorem blkK_spec {top : List Blk} {H : List (List Blk)} {l i : Nat} {K : Blk → Prop} (h : blkK top H l i K) : ∃ b, getB top H l i = some b ∧ K b := by
  cases l with
  | zero => exact getK_spec.1 h
  | succ l =>
    obtain ⟨t, ht, h⟩ := getK_spec.1 h
    obtain ⟨b, hb, h⟩ := getK_spec.1 h
    exact ⟨b, by simp [getB, ht, hb], h⟩
theorem pvsK_spec {xs : List DV} {K : List PV → Prop} (h : pvsK xs K) : K (xs.map .d) := by
  induction xs generalizing K with
  | nil => exact h
  | cons x xs ih => exact ih h
theorem dvK_spec {p : PV} {K : DV → Prop} (h : dvK p K) : ∃ x, K x ∧ ∀ m v, RP m p v → RD m.w m.ok x v := by
  cases p <;> simp only [dvK] at h <;> try exact h.elim
  · rename_i b; exact ⟨_, h, fun m v hv => by cases hv; exact .bool b⟩
  · rename_i x; exact ⟨_, h, fun m v hv => by cases hv; assumption⟩
  · refine ⟨_, h, fun m v hv => ?_⟩
    cases hv
    exact .sl 0 [] none 0 0 default (fun _ => undef) rfl (Nat.le_refl _) (by omega) (by omega) (by simp) (fun i x j y hx => by simp at hx) (fun i x j y hx => by simp at hx)
theorem dvsK_spec {ps : List PV} {K : List DV → Prop} (h : dvsK ps K) : ∃ xs, K xs ∧ xs.length = ps.length ∧ ∀ m, ∀ (vs : Nat → Value), (∀ (j : Nat) p, ps[j]? = some p → RP m p (vs j)) → ∀ (j : Nat) x, xs[j]? = some x → RD m.w m.ok x (vs j) := by
  induction ps generalizing K with
  | nil => exact ⟨[], h, rfl, fun m vs _ j x hx => by simp at hx⟩
  | cons p ps ih =>
    obtain ⟨x, h, hx⟩ := dvK_spec h
    obtain ⟨xs, h, hl, hxs⟩ := ih h
    refine ⟨x :: xs, h, by simp [hl], fun m vs hv j y hy => ?_⟩
    cases j with
    | zero => simp at hy; subst hy; exact hx m _ (hv 0 p rfl)
    | succ j => exact hxs m (fun j => vs (j + 1)) (fun j p hp => hv (j + 1) p hp) j y hy

theorem run_loadAt' {C : Cx} (hC : C.Ok) {r : TyRow} (hr : r ∈ C.L) {w : World} {ad : Addr} {vs : List Value} (hc : ∀ (j : Nat) v, vs[j]? = some v → w.cell? (ad.add j) = some v) (hl : vs.length = r.size)
    (h1 : r.ty.isAgg = false → r.size = 1) : (Instr.loadAt r.t (.pointer (some ad))).run C.P w = .ok (if r.ty.isAgg then .agg vs.toArray else vs.getD 0 undef) w := by
  obtain ⟨i, z, d, hi, hs, hb, hz, hzz, hd, hty⟩ := row_info hC hr
  simp only [Instr.loadAt, Instr.sureAddr, Sem.run_bind, Sem.run_pure, Result.andThen_ok, loadVar, run_agg hd, hty]
  cases ha : r.ty.isAgg with
  | true => simp only [if_true, Sem.run_bind, run_size hi, Result.andThen_ok, hs, ← hl, run_loadCells_list w ad vs hc, Sem.run_pure]
  | false =>
    have h1 := h1 ha
    obtain ⟨u, rfl⟩ : ∃ u, vs = [u] := by
      match vs, hl, h1 with
      | [u], _, _ => exact ⟨u, rfl⟩
      | [], hl, h1 => simp at hl; omega
      | _ :: _ :: _, hl, h1 => simp at hl; omega
    have := hc 0 u rfl
    have h0 : ad.add 0 = ad := rfl
    rw [h0] at this
    simp [this]
theorem wholeK_spec {r : TyRow} {ys : List PV} {K : PV → Prop} (h : wholeK r ys K) : ∃ q, K q ∧ (r.ty.isAgg = false → ys.length = 1) ∧ ∀ m (vs : List Value), vs.length = ys.length → (∀ (j : Nat) p v, ys[j]? = some p → vs[j]? = some v → RP m p v) →
    RP m q (if r.ty.isAgg then .agg vs.toArray else vs.getD 0 undef) := by
  unfold wholeK at h
  cases ha : r.ty.isAgg with
  | true =>
    rw [ha] at h
    exact ⟨_, h, fun h => (by cases h), fun m vs hl hr => .agg _ _ (by simp [hl]) (fun j p v hp hv => hr j p v hp (by simpa using hv))⟩
  | false =>
    rw [ha] at h
    match ys, h with
    | [y], h =>
      refine ⟨y, h, fun _ => rfl, fun m vs hl hr => ?_⟩
      match vs, hl with
      | [u], _ => exact hr 0 y u rfl rfl
    | [], h => exact h.elim
    | _ :: _ :: _, h => exact h.elim

theorem nearK_spec {l : Nat} {ys : List PV} {K : Prop} (h : nearK l ys K) : (l = 0 ∨ ∀ p ∈ ys, p.inv = true) ∧ K := by
  cases l with
  | zero => exact ⟨.inl rfl, h⟩
  | succ l =>
    simp only [nearK, ifK] at h
    split at h
    · rename_i ha; exact ⟨.inr (by simpa using ha), h⟩
    · exact h.elim
theorem loadK_spec {C : Cx} (hC : C.Ok) {H : List (List Blk)} {top : List Blk} {t : Nat} {p : PV} {K : PV → Prop} (h : loadK C H top t p K) :
    ∃ q, K q ∧ ∀ m v, Inv m top H → RP m p v → ∃ u, (Instr.loadAt t v).run C.P m.w = .ok u m.w ∧ RP m q u := by
  obtain ⟨r, hr, ht, hk⟩ := lookK_spec h
  clear h
  subst ht
  have h := hk
  clear hk
  cases p with
  | ptr l i o =>
    obtain ⟨b, hb, h⟩ := blkK_spec h
    cases b with
    | box cs =>
      obtain ⟨hlen, h⟩ := subK_spec.1 h
      obtain ⟨hnear, h⟩ := nearK_spec h
      obtain ⟨q, hq, hone, hrel⟩ := wholeK_spec h
      refine ⟨q, hq, fun m v hi hv => ?_⟩
      cases hv with
      | ptr _ _ _ g hρ =>
        obtain ⟨g', vs, e, hg', hg, hs, hcs⟩ := hi.blk l i _ hb _ hρ
        cases hg'
        have hL : ((vs.toList.drop o).take r.size).length = r.size := by
          rw [List.length_take, List.length_drop, Array.length_toList, hs]; omega
        have hone' : r.ty.isAgg = false → r.size = 1 := fun ha => by
          have := hone ha
          rw [List.length_take, List.length_drop] at this; omega
        refine ⟨_, run_loadAt' hC hr (vs := (vs.toList.drop o).take r.size) (fun j v hj => ?_) hL hone', hrel m _ ?_ (fun j p v hp hv => ?_)⟩
        · rw [add_none]
          have hj2 : vs[o + j]? = some v := by
            rcases Nat.lt_or_ge j r.size with hlt | hge
            · rw [List.getElem?_take_of_lt hlt, List.getElem?_drop] at hj; simpa using hj
            · rw [List.getElem?_eq_none (by omega)] at hj; cases hj
          simp [World.cell?, hg, hj2]
        · rw [hL, List.length_take, List.length_drop]; omega
        · rcases Nat.lt_or_ge j r.size with hlt | hge
          · rw [List.getElem?_take_of_lt hlt, List.getElem?_drop] at hp hv
            have hp2 : p ∈ (cs.drop o).take r.size := List.mem_of_getElem? (i := j) (by rw [List.getElem?_take_of_lt hlt, List.getElem?_drop]; exact hp)
            have := hcs (o + j) p v hp (by simpa using hv)
            rcases hnear with rfl | hall
            · exact this
            · exact RP.other (m := m.up l) (m' := m) rfl (fun _ h => h) (hall p hp2) this
          · rw [List.getElem?_eq_none (by omega)] at hv; cases hv
    | dead => exact h.elim
    | row e sz xs => exact h.elim
  | rptr l i sz e j =>
    obtain ⟨b, hb, h⟩ := blkK_spec h
    cases b with
    | row e' sz' xs =>
      simp only [ifK] at h
      split at h
      · rename_i hsz
        have hsz := Nat.eq_of_beq_eq_true hsz
        obtain ⟨x, hx, h⟩ := h
        obtain ⟨hlen, h⟩ := subK_spec.1 h
        obtain ⟨q, hq, hone, hrel⟩ := wholeK_spec (pvsK_spec h)
        refine ⟨q, hq, fun m v hi hv => ?_⟩
        cases hv with
        | rptr _ _ _ _ _ g N c hρ =>
          obtain ⟨h0, hxs, flat, ho, hc⟩ := hi.blk l i _ hb _ hρ
          subst hsz
          have hxl : x.length = sz' := hxs x (List.mem_of_getElem? hx)
          have hel : e < xs.length := (List.getElem?_eq_some_iff.1 hx).1
          have hfl : flat.length = xs.length * sz' := ho.1
          have hle : e * sz' + sz' ≤ flat.length := by rw [hfl, ← Nat.succ_mul]; exact Nat.mul_le_mul_right _ hel
          have hL : ((flat.drop (e * sz' + j)).take r.size).length = r.size := by rw [List.length_take, List.length_drop]; omega
          have hone' : r.ty.isAgg = false → r.size = 1 := fun ha => by
            have := hone ha
            rw [List.length_map, List.length_take, List.length_drop] at this; omega
          refine ⟨_, run_loadAt' hC hr (vs := (flat.drop (e * sz' + j)).take r.size) (fun k v hk => ?_) hL hone', hrel m _ ?_ (fun k p v hp hv => ?_)⟩
          · rw [add_none]
            have hk2 : flat[e * sz' + j + k]? = some v := by
              rcases Nat.lt_or_ge k r.size with hlt | hge
              · rw [List.getElem?_take_of_lt hlt, List.getElem?_drop] at hk; exact hk
              · rw [List.getElem?_eq_none (by omega)] at hk; cases hk
            have := ho.cells (g := g) rfl _ v hk2
            rwa [add_none, Nat.zero_add] at this
          · rw [hL, List.length_map, List.length_take, List.length_drop]; omega
          · rcases Nat.lt_or_ge k r.size with hlt | hge
            · rw [List.getElem?_map, List.getElem?_take_of_lt hlt, List.getElem?_drop] at hp
              rw [List.getElem?_take_of_lt hlt, List.getElem?_drop] at hv
              obtain ⟨y, hy, rfl⟩ := Option.map_eq_some_iff.1 hp
              exact .d _ _ (hc e x (j + k) y v hx hy (by rw [← Nat.add_assoc]; exact hv))
            · rw [List.getElem?_eq_none (by omega)] at hv; cases hv
      · exact h.elim
    | dead => exact h.elim
    | box cs => exact h.elim
  | iptr cs =>
    obtain ⟨hlen, h⟩ := subK_spec.1 h
    obtain ⟨q, hq, hone, hrel⟩ := wholeK_spec (pvsK_spec h)
    refine ⟨q, hq, fun m v hi hv => ?_⟩
    cases hv with
    | iptr _ ad u hc hr' =>
      have hL : ((List.range r.size).map u).length = r.size := by simp
      have hone' : r.ty.isAgg = false → r.size = 1 := fun ha => by
        have := hone ha
        rw [List.length_map, List.length_take, List.length_drop] at this; omega
      refine ⟨_, run_loadAt' hC hr (vs := (List.range r.size).map u) (fun k v hk => ?_) hL hone', hrel m _ ?_ (fun k p v hp hv => ?_)⟩
      · rcases Nat.lt_or_ge k r.size with hlt | hge
        · obtain ⟨y, hy⟩ : ∃ y, cs[k]? = some y := ⟨_, List.getElem?_eq_getElem (by omega)⟩
          simp [hlt] at hk
          rw [(hc k y hy).2, hk]
        · rw [List.getElem?_eq_none (by omega)] at hk; cases hk
      · rw [hL, List.length_map, List.length_take, List.length_drop]; omega
      · rcases Nat.lt_or_ge k r.size with hlt | hge
        · rw [List.getElem?_map, List.getElem?_take_of_lt hlt, List.getElem?_drop, Nat.zero_add] at hp
          obtain ⟨y, hy, rfl⟩ := Option.map_eq_some_iff.1 hp
          simp [hlt] at hv
          subst hv
          exact .d _ _ (hr' k y hy)
        · rw [List.getElem?_eq_none (by omega)] at hv; cases hv
  | any => exact h.elim
  | kb b => exact h.elim
  | ub => exact h.elim
  | d x => exact h.elim
  | nils => exact h.elim
  | row l i n => exact h.elim
  | func fn a b => exact h.elim
  | agg cs => exact h.elim
  | tuple cs => exact h.elim

theorem fieldK_spec {C : Cx} (hC : C.Ok) {t : Nat} {p : PV} {fld : Nat} {K : PV → Prop} (h : fieldK C t p fld K) :
    ∃ q, K q ∧ ∀ m v, RP m p v → ∃ u, (∀ w, (Instr.fieldAt t v fld).run C.P w = .ok u w) ∧ RP m q u := by
  obtain ⟨r, hr, ht, hk⟩ := lookK_spec h
  clear h
  subst ht
  have h := hk
  clear hk
  obtain ⟨i, z, d, hi, hs, hb, hz, hzz, hd, hty⟩ := row_info hC hr
  split at h
  · rename_i fs hfs
    obtain ⟨⟨o, ft⟩, hf, h⟩ := getK_spec.1 h
    obtain ⟨r', hr', ht', hk⟩ := lookK_spec h
    clear h
    subst ht'
    have h := hk
    clear hk
    obtain ⟨i', z', d', hi', hs', hb', hz', hzz', hd', hty'⟩ := row_info hC hr'
    rw [hfs] at hty
    cases d <;> simp only [tyOf] at hty <;> try (cases hty; done)
    rename_i fields
    simp only [Ty.struct.injEq] at hty
    subst hty
    obtain ⟨fl, hfl, he⟩ := List.getElem?_map .. ▸ hf |> fun (h : (fields.toList[fld]?).map _ = _) => Option.map_eq_some_iff.1 h
    simp only [Prod.mk.injEq] at he
    obtain ⟨rfl, he2⟩ := he
    simp only [ifK] at h
    split at h
    · rename_i hsz
      have hsz : 0 < r'.size := by simpa [Nat.blt_eq] using hsz
      have hrun : ∀ (w : World) (ad : Addr), (Instr.fieldAt r.t (.pointer (some ad)) fld).run C.P w = .ok (.pointer (some (ad.add fl.offset))) w := fun w ad => by
        have hff : fields[fld]? = some fl := by simpa using hfl
        simp only [Instr.fieldAt, Sem.run_bind, run_under hd, Result.andThen_ok, hff, Instr.sureAddr, Sem.run_pure, fieldPlace, he2, run_size hi', hs']
        rw [if_neg (by omega)]
        rfl
      cases p with
      | ptr l i o' => refine ⟨_, h, fun m v hv => ?_⟩; cases hv with | ptr _ _ _ g hρ => exact ⟨_, fun w => hrun w _, by rw [add_none]; exact .ptr _ _ _ _ hρ⟩
      | rptr l i sz e j => refine ⟨_, h, fun m v hv => ?_⟩; cases hv with | rptr _ _ _ _ _ g N c hρ => exact ⟨_, fun w => hrun w _, by rw [add_none, Nat.add_assoc]; exact .rptr _ _ _ _ _ _ _ _ hρ⟩
      | iptr cs =>
        obtain ⟨hl, h⟩ := dropK_spec.1 h
        refine ⟨_, h, fun m v hv => ?_⟩
        cases hv with
        | iptr _ ad u hc hr2 =>
          have hblk : (ad.add fl.offset).block = ad.block := by unfold Addr.add; split <;> rfl
          have hadd : ∀ k, (ad.add fl.offset).add k = ad.add (fl.offset + k) := fun k => by unfold Addr.add; by_cases h1 : fl.offset = 0 <;> by_cases h2 : k = 0 <;> simp [h1, h2, Nat.add_assoc]
          refine ⟨_, fun w => hrun w _, .iptr _ _ (fun k => u (fl.offset + k)) (fun k y hy => ?_) (fun k y hy => ?_)⟩
          · rw [List.getElem?_drop] at hy; rw [hadd, hblk]; exact hc _ y hy
          · rw [List.getElem?_drop] at hy; exact hr2 _ y hy
      | any => exact h.elim
      | kb b => exact h.elim
      | ub => exact h.elim
      | d x => exact h.elim
      | nils => exact h.elim
      | row l i n => exact h.elim
      | func fn a b => exact h.elim
      | agg cs => exact h.elim
      | tuple cs => exact h.elim
    · exact h.elim
  · exact h.elim
end Go.Proofs.Ve
