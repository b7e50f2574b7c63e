/- Contracts of the library's, off the shelf, as the value machine's: what is new, what was turned in place. -/
import Derived.Test.YtpmhiiembbfbeaaV21
import Derived.Sort.OwnSortedInts
set_option linter.all false
namespace Go.Proofs.Ve
open Go Go.RowKit

/-- A new row, nothing else turned. -/
theorem new_row {m : M} {H : List (List Blk)} (hinv : Inv m [] H) (hfree : ∀ i, m.ρ 0 i = none) {w' : World} {v : Value} {e sz : Nat} {xs : List (List DV)} {flat : List Value} (h0 : 0 < sz) (hxs : ∀ x ∈ xs, x.length = sz)
    (hown : w'.ownsRow m.w.heap.size e sz v xs.length flat) (hB : Below m.w.heap.size m.w w') (hc : ∀ (ok : Nat → Prop), ∀ (i : Nat) x (j : Nat) y u, xs[i]? = some x → x[j]? = some y → flat[i * sz + j]? = some u → RD w' ok y u) :
    ∃ m', m'.w = w' ∧ Grow m m' ∧ (∀ l i, m'.ρ (l + 1) i = m.ρ (l + 1) i) ∧ (∀ j u k, m'.ρ 0 j = some u → blkOf u = some k → m.w.heap.size ≤ k) ∧ Inv m' [.row e sz xs] H ∧ m'.ρ 0 0 = some v := by
  have hown0 : w'.ownsRow 0 e sz v xs.length flat := by
    obtain ⟨a, b⟩ := hown
    refine ⟨a, ?_⟩
    rcases b with b | ⟨g, cap, cur, b1, _, b2⟩
    · exact .inl b
    · exact .inr ⟨g, cap, cur, b1, Nat.zero_le _, b2⟩
  have hblk : ∀ k, blkOf v = some k → m.w.heap.size ≤ k ∧ k < w'.heap.size := fun k hk => by
    rcases hown.2 with ⟨b, _⟩ | ⟨g, cap, cur, b1, b2, b3, _⟩
    · rw [b] at hk; cases hk
    · rw [b1] at hk; cases hk; exact ⟨b2, (Array.getElem?_eq_some_iff.1 b3).1⟩
  let m' : M := ⟨w', fun l i => match l with | 0 => if i = 0 then some v else none | l + 1 => m.ρ (l + 1) i, fun k => m.U k ∨ blkOf v = some k⟩
  have h00 : m'.ρ 0 0 = some v := rfl
  have hup : ∀ l i, m'.ρ (l + 1) i = m.ρ (l + 1) i := fun _ _ => rfl
  have hz : ∀ i u, m'.ρ 0 i = some u → i = 0 ∧ u = v := fun i u h => by
    change (if i = 0 then some v else none) = some u at h
    split at h
    · cases h; exact ⟨by assumption, rfl⟩
    · cases h
  have hG : Grow m m' := by
    refine ⟨hB.os, hB.tape, hB.output, hB.size, fun k hk => hB.block k hk, fun l i u hu => ?_, fun k hk => ⟨fun h => ?_, .inl⟩⟩
    · cases l with
      | zero => rw [hfree i] at hu; cases hu
      | succ l => exact hu
    · rcases h with h | h
      · exact h
      · have := (hblk k h).1; omega
  have get : ∀ l i b, getB [.row e sz xs] H l i = some b → (l = 0 ∧ i = 0 ∧ b = .row e sz xs) ∨ (∃ l', l = l' + 1 ∧ getB [] H l i = some b) := by
    intro l i b hb
    cases l with
    | zero =>
      cases i with
      | zero => simp [getB] at hb; exact .inl ⟨rfl, rfl, hb.symm⟩
      | succ i => simp [getB] at hb
    | succ l => exact .inr ⟨l, rfl, hb⟩
  refine ⟨m', rfl, hG, hup, fun j u k hu hk => ?_, ⟨fun l i b hb => ?_, fun l i b l' i' b' u u' k h1 h2 h3 h4 h5 h6 h7 h8 => ?_, fun l i b u k h1 h2 h3 h4 => ?_, fun k hk => ?_⟩, h00⟩
  · obtain ⟨rfl, rfl⟩ := hz j u hu; exact (hblk k hk).1
  · rcases get l i b hb with ⟨rfl, rfl, rfl⟩ | ⟨l', rfl, hb'⟩
    · intro u hu
      rw [h00] at hu; cases hu
      exact ⟨h0, hxs, flat, hown0, hc _⟩
    · exact (hinv.blk _ i b hb').keep hG.keep (hup l' i) (fun u k hl hu hk => hG.heap k (hinv.lt k (hinv.own _ i b u k hb' hl hu hk)))
  · rcases get l i b h1 with ⟨rfl, rfl, rfl⟩ | ⟨a, rfl, hb⟩ <;> rcases get l' i' b' h3 with ⟨rfl, rfl, rfl⟩ | ⟨a', rfl, hb'⟩
    · exact ⟨rfl, rfl⟩
    · exfalso
      rw [h00] at h5; cases h5
      have := hinv.lt k (hinv.own _ i' b' u' k hb' h4 h6 h8)
      have := (hblk k h7).1; omega
    · exfalso
      rw [h00] at h6; cases h6
      have := hinv.lt k (hinv.own _ i b u k hb h2 h5 h7)
      have := (hblk k h8).1; omega
    · exact hinv.inj _ i b _ i' b' u u' k hb h2 hb' h4 h5 h6 h7 h8
  · rcases get l i b h1 with ⟨rfl, rfl, rfl⟩ | ⟨a, rfl, hb⟩
    · rw [h00] at h3; cases h3; exact .inr h4
    · exact .inl (hinv.own _ i b u k hb h2 h3 h4)
  · rcases hk with hk | hk
    · exact Nat.lt_of_lt_of_le (hinv.lt k hk) hB.size
    · exact (hblk k hk).2

/-- A row that was given, turned in place. -/
theorem turn_row {m : M} {H : List (List Blk)} {e sz : Nat} {xs xs' : List (List DV)} {v : Value} (hinv : Inv m [.row e sz xs] H) (hρ : m.ρ 0 0 = some v) (hfree : ∀ i, 1 ≤ i → m.ρ 0 i = none) {w' : World} {flat : List Value} (hxs : ∀ x ∈ xs', x.length = sz)
    (hos : w'.os = m.w.os) (htape : w'.tape = m.w.tape) (hout : w'.output = m.w.output) (hsize : m.w.heap.size ≤ w'.heap.size) (hheap : ∀ k, k < m.w.heap.size → blkOf v ≠ some k → w'.heap[k]? = m.w.heap[k]?)
    (hown : w'.ownsRow 0 e sz v xs'.length flat) (hc : ∀ (ok : Nat → Prop), ∀ (i : Nat) x (j : Nat) y u, xs'[i]? = some x → x[j]? = some y → flat[i * sz + j]? = some u → RD w' ok y u) :
    Since ⟨m, [.row e sz xs]⟩ ⟨w', m.ρ, m.U⟩ ∧ Inv ⟨w', m.ρ, m.U⟩ [.row e sz xs'] H := by
  obtain ⟨h0, _⟩ := hinv.blk 0 0 _ rfl v hρ
  have hgU : ∀ k, blkOf v = some k → m.U k := fun k hk => hinv.own 0 0 _ v k rfl rfl hρ hk
  have mine : ∀ k, blkOf v = some k → Mine m [.row e sz xs] k := fun k hk => ⟨0, _, v, rfl, rfl, hρ, hk⟩
  have hK : Keep m ⟨w', m.ρ, m.U⟩ := ⟨fun _ _ _ h => h, hsize, fun k hk => ⟨hk.2, hheap k hk.1 (fun h => hk.2 (hgU k h))⟩⟩
  have get : ∀ l i b, getB [.row e sz xs'] H l i = some b → (l = 0 ∧ i = 0 ∧ b = .row e sz xs') ∨ (∃ l', l = l' + 1 ∧ getB [.row e sz xs] H l i = some b) := by
    intro l i b hb
    cases l with
    | zero =>
      cases i with
      | zero => simp [getB] at hb; exact .inl ⟨rfl, rfl, hb.symm⟩
      | succ i => simp [getB] at hb
    | succ l => exact .inr ⟨l, rfl, hb⟩
  have old : ∀ l i b, getB [.row e sz xs'] H l i = some b → b.live = true → ∃ b', getB [.row e sz xs] H l i = some b' ∧ b'.live = true := by
    intro l i b hb hl
    rcases get l i b hb with ⟨rfl, rfl, rfl⟩ | ⟨l', rfl, hb'⟩
    · exact ⟨_, rfl, rfl⟩
    · exact ⟨b, hb', hl⟩
  refine ⟨⟨hos, htape, hout, hsize, fun k hk hn => hheap k hk (fun h => hn (mine k h)), fun _ _ => rfl, fun _ _ => Iff.rfl, fun j u k hu hk => .inr ?_⟩, ⟨fun l i b hb => ?_, fun l i b l' i' b' u u' k h1 h2 h3 h4 h5 h6 h7 h8 => ?_, fun l i b u k h1 h2 h3 h4 => ?_, fun k hk => Nat.lt_of_lt_of_le (hinv.lt k hk) hsize⟩⟩
  · cases j with
    | zero =>
      change m.ρ 0 0 = some u at hu
      rw [hρ] at hu; cases hu; exact mine k hk
    | succ j =>
      change m.ρ 0 (j + 1) = some u at hu
      rw [hfree _ (by omega)] at hu; cases hu
  · rcases get l i b hb with ⟨rfl, rfl, rfl⟩ | ⟨l', rfl, hb'⟩
    · intro u hu
      change m.ρ 0 0 = some u at hu
      rw [hρ] at hu; cases hu
      exact ⟨h0, hxs, flat, hown, hc _⟩
    · refine (hinv.blk _ i b hb').keep hK rfl (fun u k hl hu hk => hheap k (hinv.lt k (hinv.own _ i b u k hb' hl hu hk)) (fun h => ?_))
      have := (hinv.inj (l' + 1) i b 0 0 _ u v k hb' hl rfl rfl hu hρ hk h).1
      cases this
  · obtain ⟨c, c1, c2⟩ := old l i b h1 h2
    obtain ⟨c', d1, d2⟩ := old l' i' b' h3 h4
    exact hinv.inj l i c l' i' c' u u' k c1 c2 d1 d2 h5 h6 h7 h8
  · obtain ⟨c, c1, c2⟩ := old l i b h1 h2
    exact hinv.own l i c u k c1 c2 h3 h4

/-! ### rows of whole numbers -/
def rowI (l : List Int) : List (List DV) := l.map fun x => [.int .i64 x]
theorem rowI_len (l : List Int) : (rowI l).length = l.length := by simp [rowI]
theorem rowI_one (l : List Int) : ∀ x ∈ rowI l, x.length = 1 := fun x hx => by simp only [rowI, List.mem_map] at hx; obtain ⟨_, _, rfl⟩ := hx; rfl
theorem rowI_rd (l : List Int) (w : World) (ok : Nat → Prop) (i : Nat) (x : List DV) (j : Nat) (y : DV) (u : Value) (hx : (rowI l)[i]? = some x) (hy : x[j]? = some y) (hu : (l.map (Value.int .i64))[i * 1 + j]? = some u) : RD w ok y u := by
  unfold rowI at hx
  rw [List.getElem?_map] at hx
  obtain ⟨n, hn, rfl⟩ := Option.map_eq_some_iff.1 hx
  cases j with
  | succ j => simp at hy
  | zero =>
    simp at hy
    subst hy
    rw [Nat.mul_one, Nat.add_zero, List.getElem?_map, hn] at hu
    cases hu; exact .int _ _
theorem rowI_cells {w : World} {v : Value} {e : Nat} {flat : List Value} {l : List Int} (ho : w.ownsRow 0 e 1 v (rowI l).length flat) (hrd : ∀ (i : Nat) x (j : Nat) y u, (rowI l)[i]? = some x → x[j]? = some y → flat[i * 1 + j]? = some u → ∃ ok : Nat → Prop, RD w ok y u) : flat = l.map (Value.int .i64) := by
  apply List.ext_getElem?
  intro i
  have hfl : flat.length = l.length := by rw [ho.1, rowI_len]; omega
  rcases Nat.lt_or_ge i l.length with h | h
  · have h1 : flat[i]? = some flat[i] := List.getElem?_eq_getElem (by omega)
    obtain ⟨ok, h2⟩ := hrd i [.int .i64 l[i]] 0 _ flat[i] (by simp [rowI, h]) rfl (by rw [Nat.mul_one, Nat.add_zero]; exact h1)
    rw [h1, List.getElem?_map, List.getElem?_eq_getElem h]
    generalize flat[i] = u at h2
    cases h2; rfl
  · rw [List.getElem?_eq_none (by omega), List.getElem?_eq_none (by simpa using h)]
end Go.Proofs.Ve
