/- Clone, Sort, Compact: contracts off the shelf. -/
import Derived.Test.YtpmhiiembbfbeaaK10
import Derived.Test.YtpmhiiembbfbeaaV22
set_option maxRecDepth 100000
set_option linter.all false
namespace Go.Proofs.Ve
open Go Go.RowKit
def rowB (b : List UInt8) : List (List DV) := b.map fun x => [.int .u8 x.toNat]
theorem rd_bytes {w : World} {ok : Nat → Prop} {b : List UInt8} {v : Value} (h : RD w ok (encB b) v) : ∃ A n c, v = .slice A n c ∧ n = b.length ∧ (0 < n → ∃ ad, A = some ad ∧ ∀ i, i < n → w.cell? (ad.add i) = some (.int .u8 ((b.map fun x => (x.toNat : Int)).getD i 0))) := by
  unfold encB at h
  cases h with
  | sl sz _ A n c ad u hn hc hm hA hs hcell hr =>
    refine ⟨A, n, c, rfl, by simpa using hn.symm, fun hp => ⟨ad, hA hp, fun i hi => ?_⟩⟩
    have hb : i < b.length := by simp at hn; omega
    have h1 : (b.map fun x => [DV.int .u8 (x.toNat : Int)])[i]? = some [.int .u8 (b[i].toNat : Int)] := by simp [hb]
    have hsz : sz = 1 := by
      have := hs _ (List.mem_of_getElem? h1)
      simpa using this.symm
    subst hsz
    have h2 := (hcell i _ 0 _ h1 rfl).2
    have h3 := hr i _ 0 _ h1 rfl
    rw [Nat.mul_one, Nat.add_zero] at h2 h3
    rw [h2]
    generalize u i = q at h3
    cases h3
    simp [hb]
theorem c103r (b : List UInt8) (hb : b.length ≤ 140737488355328) (H : List (List Blk)) : CallEq X H 103 [.d (encB b)] (.row 0 0 b.length) [⟨5, 1, rowB b⟩] := by
  unfold CallEq
  intro m vs hinv hfree hlen hargs
  obtain ⟨v, rfl⟩ : ∃ v, vs = #[v] := by
    match vs, hlen with
    | ⟨[v]⟩, _ => exact ⟨v, rfl⟩
  have hv := hargs 0 _ v rfl rfl
  cases hv with
  | d _ _ hv =>
    obtain ⟨A, n, c, rfl, hn, hcell⟩ := rd_bytes hv
    have fin : ∀ (w' : World) (v' : Value), w'.ownsRow m.w.heap.size 5 1 v' n ((b.map fun x => (x.toNat : Int)).map (Value.int .u8)) → Below m.w.heap.size m.w w' →
        ∃ v m', Ending.returned v' = .returned v ∧ m'.w = w' ∧ Grow m m' ∧ (∀ l i, m'.ρ (l + 1) i = m.ρ (l + 1) i) ∧ (∀ j u k, m'.ρ 0 j = some u → blkOf u = some k → m.w.heap.size ≤ k) ∧ Inv m' ([⟨5, 1, rowB b⟩].map RowB.blk) H ∧ RP m' (.row 0 0 b.length) v := by
      intro w' v' hown hB
      have hl : (rowB b).length = n := by simp [rowB, hn]
      obtain ⟨m', h1, h2, h3, h4, h5, h6⟩ := new_row (xs := rowB b) hinv hfree (by decide) (fun x hx => by simp only [rowB, List.mem_map] at hx; obtain ⟨_, _, rfl⟩ := hx; rfl) (hl ▸ hown) hB (fun ok i x j y u hx hy hu => by
        unfold rowB at hx
        rw [List.getElem?_map] at hx
        obtain ⟨q, hq, rfl⟩ := Option.map_eq_some_iff.1 hx
        cases j with
        | succ j => simp at hy
        | zero =>
          simp at hy; subst hy
          rw [Nat.mul_one, Nat.add_zero, List.getElem?_map, List.getElem?_map, hq] at hu
          cases hu; exact .int _ _)
      refine ⟨v', m', rfl, h1, h2, h3, h4, h5, ?_⟩
      rcases hown.2 with ⟨a, a0⟩ | ⟨g, cap, cur, a, _, _, a1, _⟩
      · subst a
        rw [← hn, a0]
        exact .row 0 0 0 0 0 none h6 (Nat.le_refl _) (Nat.le_refl _)
      · subst a
        exact hn ▸ .row 0 0 n n cap (some ⟨g, 0, none⟩) h6 (Nat.le_refl _) a1
    cases A with
    | none =>
      have h0 : n = 0 := by
        rcases Nat.eq_zero_or_pos n with h | h
        · exact h
        · obtain ⟨ad, h1, _⟩ := hcell h; cases h1
      refine (Try.bytes_Clone_nil n c m.w).mono ?_
      rintro e w' ⟨rfl, rfl⟩
      refine fin _ _ ⟨?_, .inl ⟨rfl, h0⟩⟩ (Below.refl _ _)
      simp [hn]
    | some a =>
      refine (Try.bytes_Clone_at a n c (b.map fun x => (x.toNat : Int)) m.w (by simp [hn]) (by omega) (fun i hi => ?_)).mono ?_
      · obtain ⟨ad, h1, h2⟩ := hcell (by omega)
        cases h1; exact h2 i hi
      · rintro e w' ⟨v', rfl, hown, _, hB⟩
        exact fin w' v' hown hB
theorem c103 (b : List UInt8) (hb : b.length ≤ 140737488355328) (H : List (List Blk)) : CallEq X H 103 [.d (encB b)] (.d (encB b)) [] :=
  (c103r b hb H).freeze 1 (by
    change PV.d (.sl ((rowB b).take b.length)) = _
    rw [List.take_of_length_le (by simp [rowB])]; rfl)

/-! ### in place -/
def sortI (l : List Int) : List Int := l.mergeSort fun x y => decide (x ≤ y)
theorem sortI_len (l : List Int) : (sortI l).length = l.length := List.length_mergeSort l
theorem c64 (l : List Int) (hl : l.length < 1000000) (H : List (List Blk)) : CallEqG X H 64 [⟨3, 1, rowI l⟩] [.row 0 0 l.length] [some ⟨3, 1, rowI (sortI l)⟩] (.tuple []) [] := by
  unfold CallEqG
  refine ⟨rfl, fun m vs hinv hfree hlen hargs => ?_⟩
  obtain ⟨v, rfl⟩ : ∃ v, vs = #[v] := by
    match vs, hlen with
    | ⟨[v]⟩, _ => exact ⟨v, rfl⟩
  have hv := hargs 0 _ v rfl rfl
  cases hv with
  | row _ _ _ Nn c A hρ hn hc =>
    have hb := hinv.blk 0 0 _ rfl _ hρ
    obtain ⟨h0, _, flat, hown, hrd⟩ := hb
    change m.w.ownsRow 0 3 1 (.slice A Nn c) (rowI l).length flat at hown
    change ∀ (i : Nat) x (j : Nat) y u, (rowI l)[i]? = some x → x[j]? = some y → flat[i * 1 + j]? = some u → RD m.w m.ok y u at hrd
    have hflat := rowI_cells hown (fun i x j y u hx hy hu => ⟨_, hrd i x j y u hx hy hu⟩)
    subst hflat
    have fin : ∀ w', w'.os = m.w.os → w'.tape = m.w.tape → w'.output = m.w.output → m.w.heap.size ≤ w'.heap.size → (∀ k, k < m.w.heap.size → blkOf (.slice A Nn c) ≠ some k → w'.heap[k]? = m.w.heap[k]?) → w'.ownsRow 0 3 1 (.slice A Nn c) (rowI (sortI l)).length ((sortI l).map (Value.int .i64)) →
        ∃ v m', Ending.returned (.tuple #[]) = .returned v ∧ m'.w = w' ∧ Since ⟨m, ([⟨3, 1, rowI l⟩] : List RowB).map RowB.blk⟩ m' ∧ (∀ i, i < 1 → m'.ρ 0 (0 + i) = m.ρ 0 i) ∧ Inv m' (([] : List RowB).map RowB.blk ++ [some ⟨3, 1, rowI (sortI l)⟩].map gblk) H ∧ RP m' (.tuple []) v := by
      intro w' h1 h2 h3 h4 h5 h6
      obtain ⟨a, b⟩ := turn_row (xs' := rowI (sortI l)) hinv hρ hfree (rowI_one _) h1 h2 h3 h4 h5 h6 (fun ok i x j y u hx hy hu => rowI_rd _ _ _ _ _ _ _ _ hx hy hu)
      exact ⟨_, _, rfl, rfl, a, fun i _ => by rw [Nat.zero_add], b, .tuple [] #[] rfl (fun j p v h => by simp at h)⟩
    rcases hown.2 with ⟨h1, h2⟩ | ⟨g, cap, cur, h1, _, h3, h4, h5, h6, h7⟩
    · cases h1
      have hl0 : l.length = 0 := by rw [← rowI_len l]; exact h2
      obtain rfl : l = [] := List.eq_nil_of_length_eq_zero hl0
      refine (Try.slices_Sort_int_none none 0 m.w).mono ?_
      rintro e w' ⟨rfl, rfl⟩
      exact fin _ rfl rfl rfl (Nat.le_refl _) (fun _ _ _ => rfl) (by rw [show sortI [] = [] from List.eq_nil_of_length_eq_zero (sortI_len [])]; exact hown)
    · simp only [Value.slice.injEq] at h1
      obtain ⟨rfl, rfl, rfl⟩ := h1
      have hg : g < m.w.heap.size := (Array.getElem?_eq_some_iff.1 h3).1
      rw [rowI_len] at h4 h7
      refine (Try.slices_Sort_int g 0 c l m.w (holds_of_blockI h3 (by simpa using h7)) hg (by omega)).mono ?_
      rintro e w' ⟨rfl, n, os, rfl⟩
      have hgr := grownBy_sortedI (w := m.w) (g := g) (n := n) (os := os) (sortI l).toArray
      refine fin _ hgr.os hgr.tape hgr.output hgr.size (fun k hk hne => hgr.block k hk (fun e => hne (by cases e; rfl))) ?_
      have e1 : (rowI (sortI l)).length = l.length := (rowI_len _).trans (sortI_len l)
      rw [e1, rowI_len l]
      exact ownsRow_sortedI (w := m.w) (base := 0) (cap := c) (n := n) (e := 3) (os := os) (ss := l) (ts := sortI l) (sortI_len l) (Nat.zero_le _) h3 h4 h5 h6
def compI (l : List Int) : List Int := Lib.compact l
def compZ (l : List Int) : List Int := compI l ++ List.replicate (l.length - (compI l).length) 0
theorem compZ_len (l : List Int) : (compZ l).length = l.length := by
  have := Lib.compact_length_le l
  simp [compZ, compI]; omega
theorem c85 (l : List Int) (hl : l.length < 1000000) (H : List (List Blk)) : CallEqG X H 85 [⟨3, 1, rowI l⟩] [.row 0 0 l.length] [none] (.row 0 0 (compI l).length) [⟨3, 1, rowI (compZ l)⟩] := by
  unfold CallEqG
  refine ⟨rfl, fun m vs hinv hfree hlen hargs => ?_⟩
  obtain ⟨v, rfl⟩ : ∃ v, vs = #[v] := by
    match vs, hlen with
    | ⟨[v]⟩, _ => exact ⟨v, rfl⟩
  have hv := hargs 0 _ v rfl rfl
  cases hv with
  | row _ _ _ Nn c A hρ hn hc =>
    have hb := hinv.blk 0 0 _ rfl _ hρ
    obtain ⟨h0, _, flat, hown, hrd⟩ := hb
    change m.w.ownsRow 0 3 1 (.slice A Nn c) (rowI l).length flat at hown
    change ∀ (i : Nat) x (j : Nat) y u, (rowI l)[i]? = some x → x[j]? = some y → flat[i * 1 + j]? = some u → RD m.w m.ok y u at hrd
    have hflat := rowI_cells hown (fun i x j y u hx hy hu => ⟨_, hrd i x j y u hx hy hu⟩)
    subst hflat
    have hcl : (compI l).length ≤ l.length := Lib.compact_length_le l
    have fin : ∀ w', w'.os = m.w.os → w'.tape = m.w.tape → w'.output = m.w.output → m.w.heap.size ≤ w'.heap.size → (∀ k, k < m.w.heap.size → blkOf (.slice A Nn c) ≠ some k → w'.heap[k]? = m.w.heap[k]?) → w'.ownsRow 0 3 1 (.slice A Nn c) (rowI (compZ l)).length ((compZ l).map (Value.int .i64)) → Nn = l.length →
        ∃ v m', Ending.returned (.slice A (compI l).length c) = .returned v ∧ m'.w = w' ∧ Since ⟨m, ([⟨3, 1, rowI l⟩] : List RowB).map RowB.blk⟩ m' ∧ (∀ i, i < 1 → m'.ρ 0 (1 + i) = m.ρ 0 i) ∧ Inv m' (([⟨3, 1, rowI (compZ l)⟩] : List RowB).map RowB.blk ++ [(none : Option RowB)].map gblk) H ∧ RP m' (.row 0 0 (compI l).length) v := by
      intro w' h1 h2 h3 h4 h5 h6 h7
      obtain ⟨a, b⟩ := turn_row (xs' := rowI (compZ l)) hinv hρ hfree (rowI_one _) h1 h2 h3 h4 h5 h6 (fun ok i x j y u hx hy hu => rowI_rd _ _ _ _ _ _ _ _ hx hy hu)
      let m' : M := ⟨w', fun a i => match a with | 0 => if i ≤ 1 then m.ρ 0 0 else none | a + 1 => m.ρ (a + 1) i, m.U⟩
      have e0 : m'.ρ 0 0 = m.ρ 0 0 := rfl
      have e1 : m'.ρ 0 1 = m.ρ 0 0 := rfl
      have ez : ∀ i u, m'.ρ 0 i = some u → m.ρ 0 0 = some u := fun i u h => by
        change (if i ≤ 1 then m.ρ 0 0 else none) = some u at h
        split at h
        · exact h
        · cases h
      have hK : Keep ⟨w', m.ρ, m.U⟩ m' := by
        refine ⟨fun a i u hu => ?_, Nat.le_refl _, fun k hk => ⟨hk.2, rfl⟩⟩
        cases a with
        | succ a => exact hu
        | zero =>
          cases i with
          | zero => exact hu
          | succ i => change m.ρ 0 (i + 1) = some u at hu; rw [hfree _ (by simp)] at hu; cases hu
      have get : ∀ a i b, getB [.row 3 1 (rowI (compZ l)), .dead] H a i = some b → b.live = true → getB [.row 3 1 (rowI (compZ l))] H a i = some b ∧ m'.ρ a i = m.ρ a i := by
        intro a i b hb hl
        cases a with
        | succ a => exact ⟨hb, rfl⟩
        | zero =>
          match i, hb with
          | 0, hb => exact ⟨hb, rfl⟩
          | 1, hb => simp [getB] at hb; subst hb; cases hl
          | i + 2, hb => simp [getB] at hb
      refine ⟨_, m', rfl, rfl, ⟨a.os, a.tape, a.output, a.size, a.heap, a.up, a.U, fun j u k hu hk => ?_⟩, fun i hi => ?_, ⟨fun a i c hc => ?_, fun a i c a' i' c' u u' k q1 q2 q3 q4 q5 q6 q7 q8 => ?_, fun a i c u k q1 q2 q3 q4 => ?_, b.lt⟩, ?_⟩
      · exact a.fresh 0 u k (ez j u hu) hk
      · obtain rfl : i = 0 := by omega
        exact e1
      · cases hlv : c.live with
        | false => cases c <;> simp [Blk.live] at hlv; trivial
        | true =>
          obtain ⟨g1, g2⟩ := get a i c hc hlv
          exact (b.blk a i c g1).keep hK g2 (fun _ _ _ _ _ => rfl)
      · obtain ⟨g1, g2⟩ := get a i c q1 q2
        obtain ⟨g3, g4⟩ := get a' i' c' q3 q4
        exact b.inj a i c a' i' c' u u' k g1 q2 g3 q4 (g2 ▸ q5) (g4 ▸ q6) q7 q8
      · obtain ⟨g1, g2⟩ := get a i c q1 q2
        exact b.own a i c u k g1 q2 (g2 ▸ q3) q4
      · exact .row 0 0 _ Nn c A (e0.trans hρ) (by omega) hc
    rcases hown.2 with ⟨h1, h2⟩ | ⟨g, cap, cur, h1, _, h3, h4, h5, h6, h7⟩
    · cases h1
      have hl0 : l.length = 0 := by rw [← rowI_len l]; exact h2
      obtain rfl : l = [] := List.eq_nil_of_length_eq_zero hl0
      refine (Try.slices_Compact_int_empty none 0 m.w).mono ?_
      rintro e w' ⟨rfl, rfl⟩
      exact fin _ rfl rfl rfl (Nat.le_refl _) (fun _ _ _ => rfl) hown rfl
    · simp only [Value.slice.injEq] at h1
      obtain ⟨rfl, rfl, rfl⟩ := h1
      have hg : g < m.w.heap.size := (Array.getElem?_eq_some_iff.1 h3).1
      rw [rowI_len] at h4 h7
      refine (Try.slices_Compact_int g 0 c l m.w (holds_of_blockI h3 (by simpa using h7)) (by omega) h4).mono ?_
      rintro e w' ⟨rfl, n, rfl⟩
      have hgr := grownBy_sortedI (w := m.w) (g := g) (n := n) (os := #[]) (compZ l).toArray
      have hw : Go.Sort.grow (Go.Sort.putRow (Value.int .i64) (Go.Sort.ahead m.w n) g 0 (compZ l).toArray) #[] = Go.Sort.putRow (Value.int .i64) (Go.Sort.ahead m.w n) g 0 (compZ l).toArray := Go.Sort.grow_empty _
      rw [hw] at hgr
      refine fin _ hgr.os hgr.tape hgr.output hgr.size (fun k hk hne => hgr.block k hk (fun e => hne (by cases e; rfl))) ?_ (rowI_len l)
      have e1 : (rowI (compZ l)).length = l.length := (rowI_len _).trans (compZ_len l)
      rw [e1, rowI_len l]
      have := ownsRow_sortedI (w := m.w) (base := 0) (cap := c) (n := n) (e := 3) (os := #[]) (ss := l) (ts := compZ l) (compZ_len l) (Nat.zero_le _) h3 h4 h5 h6
      rw [hw] at this
      exact this
end Go.Proofs.Ve
