/- What the value machine says of an operation is so: turned values, cuts, literals. -/
import Derived.Test.YtpmhiiembbfbeaaV7
import Derived.Lib.ConvBytes
set_option linter.all false
namespace Go.Proofs.Ve
open Go

theorem cutK_spec {C : Cx} (hC : C.Ok) {r r' : TyRow} (hr : r ∈ C.L) (hr' : r' ∈ C.L) (hty0 : r.ty = .slice r'.t) {xs : List (List DV)} {lo hi : Option PV} {K : PV → Prop} (h : cutK r'.size xs lo hi K) :
    ∃ q, K q ∧ ∀ m v (lv hv : Option Value), RP m (.d (.sl xs)) v → (∀ p, lo = some p → ∃ u, lv = some u ∧ RP m p u) → (lo = none → lv = none) → (∀ p, hi = some p → ∃ u, hv = some u ∧ RP m p u) → (hi = none → hv = none) →
      ∃ u, (Instr.sliceAt r.t v lv hv none).run C.P m.w = .ok u m.w ∧ RP m q u := by
  obtain ⟨i, z, d, hi', hs, hb, hz, hzz, hd, hty⟩ := row_info hC hr
  obtain ⟨i', z', d', hi2, hs', hb', hz', hzz', hd', hty'⟩ := row_info hC hr'
  rw [hty0] at hty
  obtain ⟨e, rfl⟩ : ∃ e, d = .slice e := by cases d <;> simp [tyOf] at hty <;> exact ⟨_, rfl⟩
  simp only [tyOf, Ty.slice.injEq] at hty
  subst hty
  have at_ : ∀ (w : World) (v : Value) (lv hv mx : Option Value), (Instr.sliceAt r.t v lv hv mx).run C.P w = (Instr.slice r.t v lv hv mx).run C.P w := fun w v lv hv mx => by
    simp only [Instr.sliceAt, Sem.run_bind, run_under hd, Result.andThen_ok]
  -- what is cut
  have cut : ∀ (m : M) (A : Option Addr) (n c l h : Nat), RD m.w m.ok (.sl xs) (.slice A n c) → l ≤ h → h ≤ n → (l ≠ 0 → ∀ x ∈ xs, x.length = r'.size) →
      RP m (.d (.sl ((xs.take h).drop l))) (.slice (if c = l then A else A.map (·.add (l * r'.size))) (h - l) (c - l)) := by
    intro m A n c l h hx hlh hhn hsize
    cases hx with
    | sl sz _ _ _ _ ad u hn hc hm hA hsz hcell hr =>
      have hlen : ((xs.take h).drop l).length = h - l := by rw [List.length_drop, List.length_take]; omega
      have hA' : 0 < h - l → (if c = l then A else A.map (·.add (l * r'.size))) = some (ad.add (l * sz)) := by
        intro h0
        have hAs := hA (by omega)
        rw [if_neg (by omega), hAs]
        simp only [Option.map_some]
        rcases Nat.eq_zero_or_pos l with rfl | hl
        · simp
        · obtain ⟨x, hx⟩ : ∃ x, x ∈ xs := ⟨xs[0]'(by omega), List.getElem_mem _⟩
          rw [← hsize (by omega) x hx, hsz x hx]
      refine .d _ _ (.sl sz _ _ _ _ (ad.add (l * sz)) (fun k => u (l * sz + k)) hlen (by omega) (by omega) hA' (fun x hx => hsz x (List.mem_of_mem_take (List.mem_of_mem_drop hx))) (fun a x j y hx hy => ?_) (fun a x j y hx hy => ?_))
      · have hx' : xs[l + a]? = some x := by
          rw [List.getElem?_drop] at hx
          have : l + a < h := by
            rcases Nat.lt_or_ge (l + a) h with h1 | h1
            · exact h1
            · rw [List.getElem?_eq_none (by rw [List.length_take]; omega)] at hx; cases hx
          rwa [List.getElem?_take_of_lt this] at hx
        have := hcell (l + a) x j y hx' hy
        rw [add_add, add_block]
        rw [Nat.add_mul, Nat.add_assoc] at this
        exact this
      · have hx' : xs[l + a]? = some x := by
          rw [List.getElem?_drop] at hx
          have : l + a < h := by
            rcases Nat.lt_or_ge (l + a) h with h1 | h1
            · exact h1
            · rw [List.getElem?_eq_none (by rw [List.length_take]; omega)] at hx; cases hx
          rwa [List.getElem?_take_of_lt this] at hx
        have := hr (l + a) x j y hx' hy
        rw [Nat.add_mul, Nat.add_assoc] at this
        exact this
  unfold cutK at h
  split at h
  · refine ⟨_, h, fun m v lv hv hx _ hl0 _ hh0 => ?_⟩
    rw [hl0 rfl, hh0 rfl, at_]
    cases hx with
    | d _ _ hx =>
      cases hx with
      | sl sz _ A n c ad u hn hc hm hA hsz hcell hr =>
        have hx : RD m.w m.ok (.sl xs) (.slice A n c) := .sl sz xs A n c ad u hn hc hm hA hsz hcell hr
        have := cut m A n c 0 n hx (Nat.zero_le _) (Nat.le_refl _) (fun h => absurd rfl h)
        refine ⟨_, by simp [Instr.slice, run_under hd, Instr.sliceBounds, run_size hi2, hs']; rfl, ?_⟩
        rw [List.take_of_length_le (by omega)] at this
        simpa using this
  · rename_i k hh
    obtain ⟨h0, h1, hq⟩ := h
    refine ⟨_, hq, fun m v lv hv hx _ hl0 hhs _ => ?_⟩
    obtain ⟨u, rfl, hu⟩ := hhs _ rfl
    cases hu with | d _ _ hu => cases hu; rw [hl0 rfl, at_]; cases hx with
      | d _ _ hx =>
        cases hx with
        | sl sz _ A n c ad u hn hc hm hA hsz hcell hr =>
          have hx : RD m.w m.ok (.sl xs) (.slice A n c) := .sl sz xs A n c ad u hn hc hm hA hsz hcell hr
          have := cut m A n c 0 hh.toNat hx (Nat.zero_le _) (by omega) (fun h => absurd rfl h)
          refine ⟨_, by simp [Instr.slice, run_under hd, Instr.sliceBounds, Instr.sliceBound, asIntOf, run_size hi2, hs', h0, show hh ≤ (c : Int) by omega]; rfl, ?_⟩
          simpa using this
  · rename_i k l
    obtain ⟨hsize, h0, h1, hq⟩ := h
    refine ⟨_, hq, fun m v lv hv hx hls _ _ hh0 => ?_⟩
    obtain ⟨u, rfl, hu⟩ := hls _ rfl
    cases hu with | d _ _ hu => cases hu; rw [hh0 rfl, at_]; cases hx with
      | d _ _ hx =>
        cases hx with
        | sl sz _ A n c ad u hn hc hm hA hsz hcell hr =>
          have hx : RD m.w m.ok (.sl xs) (.slice A n c) := .sl sz xs A n c ad u hn hc hm hA hsz hcell hr
          have := cut m A n c l.toNat n hx (by omega) (Nat.le_refl _) (fun _ => hsize)
          refine ⟨_, by simp [Instr.slice, run_under hd, Instr.sliceBounds, Instr.sliceBound, asIntOf, run_size hi2, hs', h0, show l ≤ (n : Int) by omega]; rfl, ?_⟩
          rw [List.take_of_length_le (by omega)] at this
          exact this
  · rename_i k l k' hh
    obtain ⟨hsize, h0, h1, h2, hq⟩ := h
    refine ⟨_, hq, fun m v lv hv hx hls _ hhs _ => ?_⟩
    obtain ⟨u, rfl, hu⟩ := hls _ rfl
    obtain ⟨u', rfl, hu'⟩ := hhs _ rfl
    cases hu with | d _ _ hu => cases hu; cases hu' with | d _ _ hu' => cases hu'; rw [at_]; cases hx with
      | d _ _ hx =>
        cases hx with
        | sl sz _ A n c ad u hn hc hm hA hsz hcell hr =>
          have hx : RD m.w m.ok (.sl xs) (.slice A n c) := .sl sz xs A n c ad u hn hc hm hA hsz hcell hr
          have := cut m A n c l.toNat hh.toNat hx (by omega) (by omega) (fun _ => hsize)
          refine ⟨_, by simp [Instr.slice, run_under hd, Instr.sliceBounds, Instr.sliceBound, asIntOf, run_size hi2, hs', h0, show 0 ≤ hh by omega, show hh ≤ (c : Int) by omega, show l ≤ max hh 0 by omega]; rfl, ?_⟩
          exact this
  · exact h.elim

theorem sliceK_spec {C : Cx} (hC : C.Ok) {r r' : TyRow} (hr : r ∈ C.L) (hr' : r' ∈ C.L) (hty0 : r.ty = .slice r'.t) {p : PV} {lo hi : Option PV} {K : PV → Prop} (h : sliceK r'.size p lo hi K) :
    ∃ q, K q ∧ ∀ m v (lv hv : Option Value), (∃ top H, Inv m top H) → RP m p v → (∀ p, lo = some p → ∃ u, lv = some u ∧ RP m p u) → (lo = none → lv = none) → (∀ p, hi = some p → ∃ u, hv = some u ∧ RP m p u) → (hi = none → hv = none) →
      ∃ u, (Instr.sliceAt r.t v lv hv none).run C.P m.w = .ok u m.w ∧ RP m q u := by
  unfold sliceK at h
  split at h
  · obtain ⟨q, hq, hh⟩ := cutK_spec hC hr hr' hty0 h
    exact ⟨q, hq, fun m v lv hv _ => hh m v lv hv⟩
  · rename_i l i n
    obtain ⟨ii, z, d, hi', hs, hb, hz, hzz, hd, hty⟩ := row_info hC hr
    obtain ⟨i', z', d', hi2, hs', hb', hz', hzz', hd', hty'⟩ := row_info hC hr'
    rw [hty0] at hty
    obtain ⟨e, rfl⟩ : ∃ e, d = .slice e := by cases d <;> simp [tyOf] at hty <;> exact ⟨_, rfl⟩
    simp only [tyOf, Ty.slice.injEq] at hty
    subst hty
    split at h
    · rename_i k hh
      obtain ⟨h0, h1, hq⟩ := h
      refine ⟨_, hq, fun m v lv hv hinv hx _ hl0 hhs _ => ?_⟩
      obtain ⟨u, rfl, hu⟩ := hhs _ rfl
      cases hu with | d _ _ hu => cases hu; rw [hl0 rfl]; cases hx with
        | row _ _ _ N c A hρ hn hNc =>
          have hA : (if c = 0 then A else A.map (·.add (0 * r'.size))) = A := by
            split
            · rfl
            · cases A <;> simp [Addr.add]
          refine ⟨.slice A hh.toNat c, ?_, .row _ _ _ N c A hρ (by omega) hNc⟩
          simp only [Instr.sliceAt, Sem.run_bind, run_under hd, Result.andThen_ok]
          simp [Instr.slice, run_under hd, Instr.sliceBounds, Instr.sliceBound, asIntOf, run_size hi2, hs', h0, show hh ≤ (c : Int) by omega]
          cases A <;> simp [Addr.add]
    · exact h.elim
  · exact h.elim

/-! ### literals -/
theorem setRange_get (off : Nat) : ∀ (l : List Value) (s : Nat) (arr : Array Value), off + s + l.length ≤ arr.size →
    ((l.zipIdx s).foldl (fun cs (x : Value × Nat) => cs.setIfInBounds (off + x.2) x.1) arr).size = arr.size ∧
    ∀ k, ((l.zipIdx s).foldl (fun cs (x : Value × Nat) => cs.setIfInBounds (off + x.2) x.1) arr)[k]? = if off + s ≤ k ∧ k < off + s + l.length then l[k - (off + s)]? else arr[k]?
  | [], s, arr, h => ⟨rfl, fun k => by simp only [List.zipIdx_nil, List.foldl_nil, List.length_nil]; rw [if_neg (by omega)]⟩
  | v :: l, s, arr, h => by
    simp only [List.length_cons] at h
    obtain ⟨h1, h2⟩ := setRange_get off l (s + 1) (arr.setIfInBounds (off + s) v) (by simp; omega)
    simp only [List.zipIdx_cons, List.foldl_cons]
    refine ⟨by rw [h1]; simp, fun k => ?_⟩
    rw [h2 k]
    by_cases hk : k = off + s
    · subst hk
      rw [if_neg (by omega), if_pos ⟨by omega, by simp⟩]
      simp [show off + s < arr.size by omega]
    · by_cases hk2 : off + (s + 1) ≤ k ∧ k < off + (s + 1) + l.length
      · rw [if_pos hk2, if_pos ⟨by omega, by simp; omega⟩]
        rw [show k - (off + s) = (k - (off + (s + 1))) + 1 by omega]
        rfl
      · rw [if_neg hk2, if_neg (by simp; omega)]
        simp [Array.getElem?_setIfInBounds_ne (Ne.symm hk)]
theorem fill_cons {place : Nat → Option (Nat × Nat)} {cells : Array Value} {i : Nat} {v : Value} {rest : List (Nat × Value)} {off size : Nat} (hp : place i = some (off, size)) (hs : v.cells.size = size) (hl : off + size ≤ cells.size) :
    ∃ cells' : Array Value, Instr.fill place cells ((i, v) :: rest) = Instr.fill place cells' rest ∧ cells'.size = cells.size ∧ ∀ k, cells'[k]? = if off ≤ k ∧ k < off + size then v.cells[k - off]? else cells[k]? := by
  refine ⟨v.cells.zipIdx.foldl (fun cs (c, j) => cs.setIfInBounds (off + j) c) cells, ?_, ?_, ?_⟩
  · rw [Instr.fill, hp]
    simp only
    rw [if_neg]
    simp only [Bool.or_eq_true, decide_eq_true_eq, not_or]
    exact ⟨by simp [hs], by rw [hs]; omega⟩
  · rw [← Array.foldl_toList, Array.toList_zipIdx]
    exact (setRange_get off v.cells.toList 0 cells (by simp [hs]; omega)).1
  · intro k
    rw [← Array.foldl_toList, Array.toList_zipIdx]
    have := (setRange_get off v.cells.toList 0 cells (by simp [hs]; omega)).2 k
    simp only [Nat.add_zero, Array.length_toList, hs] at this
    rw [show (v.cells.toList.zipIdx.foldl (fun cs (x : Value × Nat) => match x with | (c, j) => cs.setIfInBounds (off + j) c) cells) = (v.cells.toList.zipIdx.foldl (fun cs (x : Value × Nat) => cs.setIfInBounds (off + x.2) x.1) cells) from rfl, this]
    simp
theorem buildK_spec {C : Cx} {tm : List PV} {place : Nat → (Nat → Nat → Prop) → Prop} {pl : Nat → Option (Nat × Nat)} (hpl : ∀ i K, place i K → ∃ o s, pl i = some (o, s) ∧ K o s) {xs : List Operand} :
    ∀ (parts : List (Nat × Operand)) (cs : List PV) (K : List PV → Prop), buildK C tm place parts cs K → (∀ x ∈ parts, x.2 ∈ xs) →
      ∃ cs', K cs' ∧ ∀ (m : M) (a : Act) (arr : Array Value), EvR m a tm xs → arr.size = cs.length → (∀ (j : Nat) p u, cs[j]? = some p → arr[j]? = some u → RP m p u) →
        ∃ arr', Instr.fill pl arr (parts.map fun x => (x.1, a.eval x.2)) = some arr' ∧ arr'.size = cs'.length ∧ ∀ (j : Nat) p u, cs'[j]? = some p → arr'[j]? = some u → RP m p u
  | [], cs, K, h, _ => ⟨cs, h, fun m a arr _ hs hr => ⟨arr, rfl, hs, hr⟩⟩
  | (i, x) :: rest, cs, K, h, hsub => by
    rw [buildK_cons] at h
    obtain ⟨p, hp, h⟩ := evK_ev h
    obtain ⟨ys, h, hcell, hys⟩ := cells_rel h
    obtain ⟨o, s, hpl1, h⟩ := hpl _ _ h
    rw [lenK_spec] at h
    simp only [ifK] at h
    split at h
    · rename_i hb
      have hb := Nat.eq_of_beq_eq_true hb
      obtain ⟨hle, h⟩ := putK_spec.1 h
      obtain ⟨cs', hk, hh⟩ := buildK_spec (C := C) hpl rest _ K h (fun x hx => hsub x (List.mem_cons_of_mem _ hx))
      refine ⟨cs', hk, fun m a arr he hs hr => ?_⟩
      obtain ⟨hsz, hcs⟩ := hys m (a.eval x) (ev_rel he (hsub (i, x) List.mem_cons_self) hp)
      obtain ⟨arr2, hf, hs2, hg⟩ := fill_cons (place := pl) (cells := arr) (i := i) (v := a.eval x) (rest := rest.map fun x => (x.1, a.eval x.2)) hpl1 (by rw [hsz, hb]) (by rw [hs, ← hb]; exact hle)
      have hrel : ∀ (j : Nat) q u, (cs.take o ++ ys ++ cs.drop (o + ys.length))[j]? = some q → arr2[j]? = some u → RP m q u := by
        intro j q u hq hu
        rw [hg j] at hu
        by_cases hj : o ≤ j ∧ j < o + s
        · rw [if_pos hj] at hu
          refine hcs (j - o) q u ?_ hu
          rw [List.append_assoc, List.getElem?_append_right (by rw [List.length_take]; omega), List.length_take, Nat.min_eq_left (by omega), List.getElem?_append_left (by omega)] at hq
          exact hq
        · rw [if_neg hj] at hu
          refine hr j q u ?_ hu
          rcases Nat.lt_or_ge j o with h1 | h1
          · rw [List.append_assoc, List.getElem?_append_left (by rw [List.length_take]; omega), List.getElem?_take_of_lt h1] at hq
            exact hq
          · rw [List.getElem?_append_right (by simp; omega)] at hq
            simp only [List.length_append, List.length_take, List.getElem?_drop] at hq
            rw [Nat.min_eq_left (by omega), show o + ys.length + (j - (o + ys.length)) = j by omega] at hq
            exact hq
      obtain ⟨arr', h1, h2, h3⟩ := hh m a arr2 he (by rw [hs2, hs]; simp; omega) hrel
      exact ⟨arr', by rw [List.map_cons]; exact hf.trans h1, h2, h3⟩
    · exact h.elim
end Go.Proofs.Ve
