/- HandTells, part 4 of 6. The engine and the contracts that the proof needs. -/
import Derived.Lib.Bytealg
import Derived.Laws.Strings
import Derived.Test.YtpmhiiembbfbeaaGreatHandTellsJ1
import Derived.Test.YtpmhiiembbfbeaaGreatHandTellsJ2
import Derived.Test.YtpmhiiembbfbeaaGreatHandTellsJ3
/- Clone, Sort, Compact: contracts off the shelf. -/
set_option maxRecDepth 100000
set_option linter.all false
namespace Go.Proofs.Ve
open Go Go.RowKit
def rowB (b : List UInt8) : List (List DV) := b.map fun x => [.int .u8 x.toNat]
theorem rd_bytes {w : World} {ok : Nat → Prop} {b : List UInt8} {v : Value} (h : RD w ok (encB b) v) : ∃ A n c, v = .slice A n c ∧ n = b.length ∧ (0 < n → ∃ ad, A = some ad ∧ ∀ i, i < n → w.cell? (ad.add i) = some (.int .u8 ((b.map fun x => (x.toNat : Int)).getD i 0))) := by
  unfold encB at h
  cases h with
  | sl sz _ A n c ad u hn hc hm hA hs hcell hr =>
    refine ⟨A, n, c, rfl, by simpa using hn.symm, fun hp => ⟨ad, hA hp, fun i hi => ?_⟩⟩
    have hb : i < b.length := by simp at hn; omega
    have h1 : (b.map fun x => [DV.int .u8 (x.toNat : Int)])[i]? = some [.int .u8 (b[i].toNat : Int)] := by simp [hb]
    have hsz : sz = 1 := by
      have := hs _ (List.mem_of_getElem? h1)
      simpa using this.symm
    subst hsz
    have h2 := (hcell i _ 0 _ h1 rfl).2
    have h3 := hr i _ 0 _ h1 rfl
    rw [Nat.mul_one, Nat.add_zero] at h2 h3
    rw [h2]
    generalize u i = q at h3
    cases h3
    simp [hb]
theorem c103r (b : List UInt8) (hb : b.length ≤ 140737488355328) (H : List (List Blk)) : CallEq X H 73 [.d (encB b)] (.row 0 0 b.length) [⟨5, 1, rowB b⟩] := by
  unfold CallEq
  intro m vs hinv hfree hlen hargs
  obtain ⟨v, rfl⟩ : ∃ v, vs = #[v] := by
    match vs, hlen with
    | ⟨[v]⟩, _ => exact ⟨v, rfl⟩
  have hv := hargs 0 _ v rfl rfl
  cases hv with
  | d _ _ hv =>
    obtain ⟨A, n, c, rfl, hn, hcell⟩ := rd_bytes hv
    have fin : ∀ (w' : World) (v' : Value), w'.ownsRow m.w.heap.size 5 1 v' n ((b.map fun x => (x.toNat : Int)).map (Value.int .u8)) → Below m.w.heap.size m.w w' →
        ∃ v m', Ending.returned v' = .returned v ∧ m'.w = w' ∧ Grow m m' ∧ (∀ l i, m'.ρ (l + 1) i = m.ρ (l + 1) i) ∧ (∀ j u k, m'.ρ 0 j = some u → blkOf u = some k → m.w.heap.size ≤ k) ∧ Inv m' ([⟨5, 1, rowB b⟩].map RowB.blk) H ∧ RP m' (.row 0 0 b.length) v := by
      intro w' v' hown hB
      have hl : (rowB b).length = n := by simp [rowB, hn]
      obtain ⟨m', h1, h2, h3, h4, h5, h6⟩ := new_row (xs := rowB b) hinv hfree (by decide) (fun x hx => by simp only [rowB, List.mem_map] at hx; obtain ⟨_, _, rfl⟩ := hx; rfl) (hl ▸ hown) hB (fun ok i x j y u hx hy hu => by
        unfold rowB at hx
        rw [List.getElem?_map] at hx
        obtain ⟨q, hq, rfl⟩ := Option.map_eq_some_iff.1 hx
        cases j with
        | succ j => simp at hy
        | zero =>
          simp at hy; subst hy
          rw [Nat.mul_one, Nat.add_zero, List.getElem?_map, List.getElem?_map, hq] at hu
          cases hu; exact .int _ _)
      refine ⟨v', m', rfl, h1, h2, h3, h4, h5, ?_⟩
      rcases hown.2 with ⟨a, a0⟩ | ⟨g, cap, cur, a, _, _, a1, _⟩
      · subst a
        rw [← hn, a0]
        exact .row 0 0 0 0 0 none h6 (Nat.le_refl _) (Nat.le_refl _)
      · subst a
        exact hn ▸ .row 0 0 n n cap (some ⟨g, 0, none⟩) h6 (Nat.le_refl _) a1
    cases A with
    | none =>
      have h0 : n = 0 := by
        rcases Nat.eq_zero_or_pos n with h | h
        · exact h
        · obtain ⟨ad, h1, _⟩ := hcell h; cases h1
      refine (Tryz.bytes_Clone_nil n c m.w).mono ?_
      rintro e w' ⟨rfl, rfl⟩
      refine fin _ _ ⟨?_, .inl ⟨rfl, h0⟩⟩ (Below.refl _ _)
      simp [hn]
    | some a =>
      refine (Tryz.bytes_Clone_at a n c (b.map fun x => (x.toNat : Int)) m.w (by simp [hn]) (by omega) (fun i hi => ?_)).mono ?_
      · obtain ⟨ad, h1, h2⟩ := hcell (by omega)
        cases h1; exact h2 i hi
      · rintro e w' ⟨v', rfl, hown, _, hB⟩
        exact fin w' v' hown hB
theorem c103 (b : List UInt8) (hb : b.length ≤ 140737488355328) (H : List (List Blk)) : CallEq X H 73 [.d (encB b)] (.d (encB b)) [] :=
  (c103r b hb H).freeze 1 (by
    change PV.d (.sl ((rowB b).take b.length)) = _
    rw [List.take_of_length_le (by simp [rowB])]; rfl)

/-! ### in place -/
def sortI (l : List Int) : List Int := l.mergeSort fun x y => decide (x ≤ y)
theorem sortI_len (l : List Int) : (sortI l).length = l.length := List.length_mergeSort l
theorem c64 (l : List Int) (hl : l.length < 1000000) (H : List (List Blk)) : CallEqG X H 68 [⟨3, 1, rowI l⟩] [.row 0 0 l.length] [some ⟨3, 1, rowI (sortI l)⟩] (.tuple []) [] := by
  unfold CallEqG
  refine ⟨rfl, fun m vs hinv hfree hlen hargs => ?_⟩
  obtain ⟨v, rfl⟩ : ∃ v, vs = #[v] := by
    match vs, hlen with
    | ⟨[v]⟩, _ => exact ⟨v, rfl⟩
  have hv := hargs 0 _ v rfl rfl
  cases hv with
  | row _ _ _ Nn c A hρ hn hc =>
    have hb := hinv.blk 0 0 _ rfl _ hρ
    obtain ⟨h0, _, flat, hown, hrd⟩ := hb
    change m.w.ownsRow 0 3 1 (.slice A Nn c) (rowI l).length flat at hown
    change ∀ (i : Nat) x (j : Nat) y u, (rowI l)[i]? = some x → x[j]? = some y → flat[i * 1 + j]? = some u → RD m.w m.ok y u at hrd
    have hflat := rowI_cells hown (fun i x j y u hx hy hu => ⟨_, hrd i x j y u hx hy hu⟩)
    subst hflat
    have fin : ∀ w', w'.os = m.w.os → w'.tape = m.w.tape → w'.output = m.w.output → m.w.heap.size ≤ w'.heap.size → (∀ k, k < m.w.heap.size → blkOf (.slice A Nn c) ≠ some k → w'.heap[k]? = m.w.heap[k]?) → w'.ownsRow 0 3 1 (.slice A Nn c) (rowI (sortI l)).length ((sortI l).map (Value.int .i64)) →
        ∃ v m', Ending.returned (.tuple #[]) = .returned v ∧ m'.w = w' ∧ Since (M0.of m (([⟨3, 1, rowI l⟩] : List RowB).map RowB.blk)) m' (([] : List RowB).map RowB.blk ++ [some ⟨3, 1, rowI (sortI l)⟩].map gblk) ∧ (∀ i, i < 1 → m'.ρ 0 (0 + i) = m.ρ 0 i) ∧ Inv m' (([] : List RowB).map RowB.blk ++ [some ⟨3, 1, rowI (sortI l)⟩].map gblk) H ∧ RP m' (.tuple []) v := by
      intro w' h1 h2 h3 h4 h5 h6
      obtain ⟨a, b⟩ := turn_row (xs' := rowI (sortI l)) hinv hρ hfree (rowI_one _) h1 h2 h3 h4 h5 h6 (fun ok i x j y u hx hy hu => rowI_rd _ _ _ _ _ _ _ _ hx hy hu)
      exact ⟨_, _, rfl, rfl, a, fun i _ => by rw [Nat.zero_add], b, .tuple [] #[] rfl (fun j p v h => by simp at h)⟩
    rcases hown.2 with ⟨h1, h2⟩ | ⟨g, cap, cur, h1, _, h3, h4, h5, h6, h7⟩
    · cases h1
      have hl0 : l.length = 0 := by rw [← rowI_len l]; exact h2
      obtain rfl : l = [] := List.eq_nil_of_length_eq_zero hl0
      refine (Tryz.slices_Sort_int_none none 0 m.w).mono ?_
      rintro e w' ⟨rfl, rfl⟩
      exact fin _ rfl rfl rfl (Nat.le_refl _) (fun _ _ _ => rfl) (by rw [show sortI [] = [] from List.eq_nil_of_length_eq_zero (sortI_len [])]; exact hown)
    · simp only [Value.slice.injEq] at h1
      obtain ⟨rfl, rfl, rfl⟩ := h1
      have hg : g < m.w.heap.size := (Array.getElem?_eq_some_iff.1 h3).1
      rw [rowI_len] at h4 h7
      refine (Tryz.slices_Sort_int g 0 c l m.w (holds_of_blockI h3 (by simpa using h7)) hg (by omega)).mono ?_
      rintro e w' ⟨rfl, n, os, rfl⟩
      have hgr := grownBy_sortedI (w := m.w) (g := g) (n := n) (os := os) (sortI l).toArray
      refine fin _ hgr.os hgr.tape hgr.output hgr.size (fun k hk hne => hgr.block k hk (fun e => hne (by cases e; rfl))) ?_
      have e1 : (rowI (sortI l)).length = l.length := (rowI_len _).trans (sortI_len l)
      rw [e1, rowI_len l]
      exact ownsRow_sortedI (w := m.w) (base := 0) (cap := c) (n := n) (e := 3) (os := os) (ss := l) (ts := sortI l) (sortI_len l) (Nat.zero_le _) h3 h4 h5 h6
def compI (l : List Int) : List Int := Lib.compact l
def compZ (l : List Int) : List Int := compI l ++ List.replicate (l.length - (compI l).length) 0
theorem compZ_len (l : List Int) : (compZ l).length = l.length := by
  have := Lib.compact_length_le l
  simp [compZ, compI]; omega
theorem c85 (l : List Int) (hl : l.length < 1000000) (H : List (List Blk)) : CallEqG X H 98 [⟨3, 1, rowI l⟩] [.row 0 0 l.length] [none] (.row 0 0 (compI l).length) [⟨3, 1, rowI (compZ l)⟩] := by
  unfold CallEqG
  refine ⟨rfl, fun m vs hinv hfree hlen hargs => ?_⟩
  obtain ⟨v, rfl⟩ : ∃ v, vs = #[v] := by
    match vs, hlen with
    | ⟨[v]⟩, _ => exact ⟨v, rfl⟩
  have hv := hargs 0 _ v rfl rfl
  cases hv with
  | row _ _ _ Nn c A hρ hn hc =>
    have hb := hinv.blk 0 0 _ rfl _ hρ
    obtain ⟨h0, _, flat, hown, hrd⟩ := hb
    change m.w.ownsRow 0 3 1 (.slice A Nn c) (rowI l).length flat at hown
    change ∀ (i : Nat) x (j : Nat) y u, (rowI l)[i]? = some x → x[j]? = some y → flat[i * 1 + j]? = some u → RD m.w m.ok y u at hrd
    have hflat := rowI_cells hown (fun i x j y u hx hy hu => ⟨_, hrd i x j y u hx hy hu⟩)
    subst hflat
    have hcl : (compI l).length ≤ l.length := Lib.compact_length_le l
    have fin : ∀ w', w'.os = m.w.os → w'.tape = m.w.tape → w'.output = m.w.output → m.w.heap.size ≤ w'.heap.size → (∀ k, k < m.w.heap.size → blkOf (.slice A Nn c) ≠ some k → w'.heap[k]? = m.w.heap[k]?) → w'.ownsRow 0 3 1 (.slice A Nn c) (rowI (compZ l)).length ((compZ l).map (Value.int .i64)) → Nn = l.length →
        ∃ v m', Ending.returned (.slice A (compI l).length c) = .returned v ∧ m'.w = w' ∧ Since (M0.of m (([⟨3, 1, rowI l⟩] : List RowB).map RowB.blk)) m' (([⟨3, 1, rowI (compZ l)⟩] : List RowB).map RowB.blk ++ [(none : Option RowB)].map gblk) ∧ (∀ i, i < 1 → m'.ρ 0 (1 + i) = m.ρ 0 i) ∧ Inv m' (([⟨3, 1, rowI (compZ l)⟩] : List RowB).map RowB.blk ++ [(none : Option RowB)].map gblk) H ∧ RP m' (.row 0 0 (compI l).length) v := by
      intro w' h1 h2 h3 h4 h5 h6 h7
      obtain ⟨a, b⟩ := turn_row (xs' := rowI (compZ l)) hinv hρ hfree (rowI_one _) h1 h2 h3 h4 h5 h6 (fun ok i x j y u hx hy hu => rowI_rd _ _ _ _ _ _ _ _ hx hy hu)
      let m' : M := ⟨w', fun a i => match a with | 0 => if i ≤ 1 then m.ρ 0 0 else none | a + 1 => m.ρ (a + 1) i, m.U⟩
      have e0 : m'.ρ 0 0 = m.ρ 0 0 := rfl
      have e1 : m'.ρ 0 1 = m.ρ 0 0 := rfl
      have ez : ∀ i u, m'.ρ 0 i = some u → m.ρ 0 0 = some u := fun i u h => by
        change (if i ≤ 1 then m.ρ 0 0 else none) = some u at h
        split at h
        · exact h
        · cases h
      have hK : Keep ⟨w', m.ρ, m.U⟩ m' := by
        refine ⟨fun a i u hu => ?_, Nat.le_refl _, fun k hk => ⟨hk.2, rfl⟩⟩
        cases a with
        | succ a => exact hu
        | zero =>
          cases i with
          | zero => exact hu
          | succ i => change m.ρ 0 (i + 1) = some u at hu; rw [hfree _ (by simp)] at hu; cases hu
      have get : ∀ a i b, getB [.row 3 1 (rowI (compZ l)), .dead] H a i = some b → b.live = true → getB [.row 3 1 (rowI (compZ l))] H a i = some b ∧ m'.ρ a i = m.ρ a i := by
        intro a i b hb hl
        cases a with
        | succ a => exact ⟨hb, rfl⟩
        | zero =>
          match i, hb with
          | 0, hb => exact ⟨hb, rfl⟩
          | 1, hb => simp [getB] at hb; subst hb; cases hl
          | i + 2, hb => simp [getB] at hb
      refine ⟨_, m', rfl, rfl, ⟨a.os, a.tape, a.output, a.size, a.heap, a.up, a.U, fun k hM => ?_⟩, fun i hi => ?_, ⟨fun a i c hc => ?_, fun a i c a' i' c' u u' k q1 q2 q3 q4 q5 q6 q7 q8 => ?_, fun a i c u k q1 q2 q3 q4 => ?_, b.lt⟩, ?_⟩
      · obtain ⟨i, b', u, _, _, hu, hk⟩ := hM
        exact a.fresh k ⟨0, _, u, rfl, rfl, ez i u hu, hk⟩
      · obtain rfl : i = 0 := by omega
        exact e1
      · cases hlv : c.live with
        | false => cases c <;> first | (simp [Blk.live] at hlv; done) | trivial
        | true =>
          obtain ⟨g1, g2⟩ := get a i c hc hlv
          exact (b.blk a i c g1).keep hK g2 (fun _ _ _ _ _ => rfl)
      · obtain ⟨g1, g2⟩ := get a i c q1 q2
        obtain ⟨g3, g4⟩ := get a' i' c' q3 q4
        exact b.inj a i c a' i' c' u u' k g1 q2 g3 q4 (g2 ▸ q5) (g4 ▸ q6) q7 q8
      · obtain ⟨g1, g2⟩ := get a i c q1 q2
        exact b.own a i c u k g1 q2 (g2 ▸ q3) q4
      · exact .row 0 0 _ Nn c A (e0.trans hρ) (by omega) hc
    rcases hown.2 with ⟨h1, h2⟩ | ⟨g, cap, cur, h1, _, h3, h4, h5, h6, h7⟩
    · cases h1
      have hl0 : l.length = 0 := by rw [← rowI_len l]; exact h2
      obtain rfl : l = [] := List.eq_nil_of_length_eq_zero hl0
      refine (Tryz.slices_Compact_int_empty none 0 m.w).mono ?_
      rintro e w' ⟨rfl, rfl⟩
      exact fin _ rfl rfl rfl (Nat.le_refl _) (fun _ _ _ => rfl) hown rfl
    · simp only [Value.slice.injEq] at h1
      obtain ⟨rfl, rfl, rfl⟩ := h1
      have hg : g < m.w.heap.size := (Array.getElem?_eq_some_iff.1 h3).1
      rw [rowI_len] at h4 h7
      refine (Tryz.slices_Compact_int g 0 c l m.w (holds_of_blockI h3 (by simpa using h7)) (by omega) h4).mono ?_
      rintro e w' ⟨rfl, n, rfl⟩
      have hgr := grownBy_sortedI (w := m.w) (g := g) (n := n) (os := #[]) (compZ l).toArray
      have hw : Go.Sort.grow (Go.Sort.putRow (Value.int .i64) (Go.Sort.ahead m.w n) g 0 (compZ l).toArray) #[] = Go.Sort.putRow (Value.int .i64) (Go.Sort.ahead m.w n) g 0 (compZ l).toArray := Go.Sort.grow_empty _
      rw [hw] at hgr
      refine fin _ hgr.os hgr.tape hgr.output hgr.size (fun k hk hne => hgr.block k hk (fun e => hne (by cases e; rfl))) ?_ (rowI_len l)
      have e1 : (rowI (compZ l)).length = l.length := (rowI_len _).trans (compZ_len l)
      rw [e1, rowI_len l]
      have := ownsRow_sortedI (w := m.w) (base := 0) (cap := c) (n := n) (e := 3) (os := #[]) (ss := l) (ts := compZ l) (compZ_len l) (Nat.zero_le _) h3 h4 h5 h6
      rw [hw] at this
      exact this
end Go.Proofs.Ve

/- Concat of locks; who is ahead. -/
set_option maxRecDepth 100000
set_option linter.all false
namespace Go.Proofs.Ve
open Go
theorem take_snoc' {α : Type} {l : List α} {k : Nat} {x : α} (h : l[k]? = some x) : l.take (k + 1) = l.take k ++ [x] := by
  rw [List.take_add_one, h]; rfl
theorem flat_snoc {α : Type} {ls : List (List α)} {k : Nat} {l : List α} (h : ls[k]? = some l) : (ls.take (k + 1)).flatten = (ls.take k).flatten ++ l := by
  rw [take_snoc' h]; simp
theorem flat_le {α : Type} (ls : List (List α)) (k : Nat) : (ls.take k).flatten.length ≤ ls.flatten.length := by
  have h : ls.flatten = (ls.take k).flatten ++ (ls.drop k).flatten := by rw [← List.flatten_append, List.take_append_drop]
  rw [h, List.length_append]; omega
def encLL (ls : List (List Lock)) : DV := .sl (ls.map fun l => [encLocks l])
theorem c84 (ls : List (List Lock)) (hn : ls.length < 1000000) (ht : ls.flatten.length < 1000000) (H : List (List Blk)) : CallEq X H 97 [.d (encLL ls)] (.row 0 0 ls.flatten.length) [⟨53, 7, ls.flatten.map cLock⟩] := by
  refine callEq_of_body X_ok rfl Tryz.func97 rfl ?_
  conv => whnf
  refine loopV_of (fun k : Nat => ⟨[.d (encLL ls), .any, .nils, .d (.int .i64 ((ls.take k).flatten.length : Nat)), .any, .any, .any, .any, .any, .d (encLL ls), .d (.int .i64 (ls.map fun l => [encLocks l]).length), .d (.int .i64 k), .any, .any, .any, .any, .any, .any, .any, .any, .any, .any, .any, .any, .any, .any, .any, .any, .any, .any, .any, .any, .any, .any, .any, .any], []⟩)
    (fun k => k ≤ ls.length) (fun k => ls.length - k) 0 [] (Nat.zero_le _) ?_ ?_
  · refine And.intro rfl (And.intro ?_ ?_)
    all_goals repeat' (first | exact True.intro | exact rfl | refine And.intro ?_ ?_)
  · intro k hk
    conv => whnf
    refine And.intro (fun h_ => ?_) (fun h_ => ?_)
    · conv => whnf
      have hk' : k < ls.length := by simpa using h_
      obtain ⟨l, hl⟩ : ∃ l, ls[k]? = some l := ⟨_, List.getElem?_eq_getElem hk'⟩
      have hf := flat_snoc hl
      have hf' : (ls.take (k + 1)).flatten.length = (ls.take k).flatten.length + l.length := by rw [hf]; simp
      have hle := flat_le ls (k + 1)
      refine ⟨by omega, [encLocks l], by simp [hl], rfl, ?_⟩
      conv => whnf
      intro z hz
      conv => whnf
      rw [show ((l.map cLock).length : Int) = (l.length : Int) by simp, wrap_small (by omega) (by omega)] at hz
      subst hz
      refine And.intro (fun h1 => ?_) (fun h1 => ?_)
      · simp at h1; omega
      conv => whnf
      intro z hz
      conv => whnf
      rw [wrap_small (by omega) (by omega)] at hz
      subst hz
      refine ⟨k + 1, [], by omega, by omega, And.intro rfl (And.intro ?_ ?_)⟩
      all_goals repeat' (first | exact True.intro | exact rfl | refine And.intro ?_ ?_)
      show DV.int .i64 _ = DV.int .i64 _
      rw [hf']; rfl
    · conv => whnf
      have hk' : k = ls.length := by simp at h_; omega
      subst hk'
      rw [List.take_length]
      refine ⟨by omega, ?_⟩
      conv => whnf
      refine ⟨by (first | omega | (dsimp only; omega) | (simp; done) | (simp; omega)), by (first | omega | (dsimp only; omega) | (simp; done) | (simp; omega)), fun h0 => ?_, fun h0 => ?_⟩
      all_goals
        conv => whnf
        refine loopV_of (fun k : Nat => ⟨[.d (encLL ls), .any, .nils, .any, .any, .any, .row 0 0 (ls.take k).flatten.length, .any, .any, .any, .any, .any, .any, .any, .any, .any, .any, .any, .any, .any, .any, .any, .any, .any, .any, .d (encLL ls), .d (.int .i64 (ls.map fun l => [encLocks l]).length), .d (.int .i64 k), .any, .any, .any, .any, .any, .any, .any, .any], [.row 53 7 ((ls.take k).flatten.map cLock)]⟩)
          (fun k => k ≤ ls.length) (fun k => ls.length - k) 0 [0] (Nat.zero_le _) ?_ ?_
        · refine And.intro rfl (And.intro ?_ ?_)
          all_goals repeat' (first | exact True.intro | exact rfl | refine And.intro ?_ ?_)
        · intro k hk
          conv => whnf
          refine And.intro (fun h_ => ?_) (fun h_ => ?_)
          · conv => whnf
            have hk' : k < ls.length := by simpa using h_
            obtain ⟨l, hl⟩ : ∃ l, ls[k]? = some l := ⟨_, List.getElem?_eq_getElem hk'⟩
            have hf := flat_snoc hl
            have hf' : (ls.take (k + 1)).flatten.length = (ls.take k).flatten.length + l.length := by rw [hf]; simp
            have hle := flat_le ls (k + 1)
            refine ⟨by omega, [encLocks l], by simp [hl], rfl, ?_⟩
            conv => whnf
            refine ⟨fun y hy => ?_, ?_⟩
            · simp only [List.mem_map] at hy; obtain ⟨_, _, rfl⟩ := hy; rfl
            conv => whnf
            refine ⟨(List.length_map _).symm, by rw [List.length_map]; (first | omega | (dsimp only; omega) | (simp; done) | (simp; omega)), ?_⟩
            conv => whnf
            intro z hz
            conv => whnf
            rw [wrap_small (by omega) (by omega)] at hz
            subst hz
            refine ⟨k + 1, [1], by omega, by omega, And.intro rfl (And.intro ?_ ?_)⟩
            all_goals (repeat' (first | exact True.intro | exact rfl | refine And.intro ?_ ?_))
            · show PV.row 0 1 _ = PV.row 0 1 _
              rw [hf', List.length_map]
            · rw [hf, List.map_append]
          · conv => whnf
            have hk' : k = ls.length := by simp at h_; omega
            subst hk'
            rw [List.take_length]
            exact ⟨[0], rfl, And.intro rfl rfl, And.intro (And.intro rfl (And.intro rfl rfl)) True.intro⟩
theorem c84f (a b : List Lock) (ha : a.length < 100000) (hb : b.length < 100000) (H : List (List Blk)) : CallEq X H 97 [.d (.sl [[encLocks a], [encLocks b]])] (.d (encLocks (a ++ b))) [] := by
  have h := (c84 [a, b] (by simp) (by simp; omega) H).freeze 1 (r' := .d (encLocks (a ++ b))) (by
    change PV.d (.sl (List.take _ (List.map cLock _))) = _
    rw [List.take_of_length_le (by simp)]
    simp [encLocks])
  exact h
/-! ### who is ahead -/
def aheadOf (x : Lock) (l : List Lock) : List Int := (l.filter fun y => lClash y x).map (·.owner)
theorem ahead_snoc {x y : Lock} {l : List Lock} {k : Nat} (h : l[k]? = some y) : aheadOf x (l.take (k + 1)) = aheadOf x (l.take k) ++ if lClash y x then [y.owner] else [] := by
  unfold aheadOf
  rw [take_snoc' h, List.filter_append, List.map_append]
  cases hc : lClash y x <;> simp [hc]
theorem ahead_len (x : Lock) (l : List Lock) : (aheadOf x l).length ≤ l.length := by
  unfold aheadOf; rw [List.length_map]; exact List.length_filter_le _ _
def lAhead (l : Locks) (x : Lock) (many : Nat) : List Int := compI (sortI (aheadOf x (l.held ++ l.queue.take many)))
theorem c45r (l : Locks) (x : Lock) (many : Nat) (hm : many ≤ l.queue.length) (h1 : l.held.length < 100000) (h2 : l.queue.length < 100000) (H : List (List Blk)) : CallEq X H 66 [pLocks l, pLock x, .d (.int .i64 many)] (.row 0 0 (lAhead l x many).length) [⟨3, 1, rowI (compZ (sortI (aheadOf x (l.held ++ l.queue.take many))))⟩] := by
  refine callEq_of_body X_ok rfl Tryz.func66 rfl ?_
  conv => whnf
  refine ⟨by omega, by simp; omega, ?_⟩
  conv => whnf
  have hc := fun H => c84f l.held (l.queue.take many) h1 (by simp; omega) H
  rw [show encLocks (l.queue.take many) = .sl (List.take (many : Int).toNat (l.queue.map cLock)) by rw [encLocks, List.map_take]; rfl] at hc
  refine ⟨_, _, hc _, True.intro, ?_⟩
  conv => whnf
  obtain ⟨L, hL⟩ : ∃ L, L = l.held ++ l.queue.take many := ⟨_, rfl⟩
  have hLl : L.length < 200000 := by rw [hL]; simp; omega
  rw [← hL]
  refine loopV_of (fun k : Nat => ⟨[.any, .any, .any, .ptr 0 0 0, .ptr 0 1 0, .any, .row 0 2 (aheadOf x (L.take k)).length, .any, .any, .any, .any, .any, .any, .any, .any, .any, .any, .any, .d (encLocks L), .d (.int .i64 (L.map cLock).length), .d (.int .i64 k), .any, .any, .any, .any, .any, .any, .any, .any, .any, .any, .any, .any, .any, .any, .any, .any], [.box [.d (encLocks l.held), .d (encLocks l.queue)], bLock x, .row 3 1 (rowI (aheadOf x (L.take k)))]⟩)
    (fun k => k ≤ L.length) (fun k => L.length - k) 0 [0, 1, 2] (Nat.zero_le _) ?_ ?_
  · refine And.intro rfl (And.intro ?_ ?_)
    all_goals (repeat' (first | exact True.intro | exact rfl | refine And.intro ?_ ?_))
  · intro k hk
    conv => whnf
    refine And.intro (fun h_ => ?_) (fun h_ => ?_)
    · conv => whnf
      have hk' : k < L.length := by simpa using h_
      obtain ⟨y, hy⟩ : ∃ y, L[k]? = some y := ⟨_, List.getElem?_eq_getElem hk'⟩
      have hs := ahead_snoc (x := x) hy
      have hle := ahead_len x (L.take k)
      have hle' : (L.take k).length ≤ k := List.length_take_le _ _
      refine ⟨by omega, cLock y, by simp [hy], rfl, ?_⟩
      conv => whnf
      refine ⟨_, _, c21 y x _, True.intro, ?_⟩
      conv => whnf
      refine And.intro (fun h1 => ?_) (fun h1 => ?_)
      · conv => whnf
        rw [h1, if_pos rfl] at hs
        have hs' : (aheadOf x (L.take (k + 1))).length = (aheadOf x (L.take k)).length + 1 := by rw [hs]; simp
        refine ⟨fun y hy => by simp at hy; subst hy; rfl, ?_⟩
        conv => whnf
        refine ⟨(rowI_len _).symm, by (first | omega | (dsimp only; omega) | (simp; done) | (simp; omega)), ?_⟩
        conv => whnf
        intro z hz
        conv => whnf
        rw [wrap_small (by omega) (by omega)] at hz
        subst hz
        refine ⟨k + 1, [0, 1, 4], by omega, by omega, And.intro rfl (And.intro ?_ ?_)⟩
        all_goals (repeat' (first | exact True.intro | exact rfl | refine And.intro ?_ ?_))
        · show PV.row 0 4 _ = PV.row 0 4 _
          rw [hs']; rfl
        · rw [hs]; simp [rowI]
      · conv => whnf
        rw [h1] at hs
        simp only [Bool.false_eq_true, if_false, List.append_nil] at hs
        intro z hz
        conv => whnf
        rw [wrap_small (by omega) (by omega)] at hz
        subst hz
        refine ⟨k + 1, [0, 1, 2], by omega, by omega, And.intro rfl (And.intro ?_ ?_)⟩
        all_goals (repeat' (first | exact True.intro | exact rfl | refine And.intro ?_ ?_))
        · show PV.row 0 2 _ = PV.row 0 2 _
          rw [hs]
        · rw [hs]
    · conv => whnf
      have hk' : k = L.length := by simp at h_; omega
      subst hk'
      rw [List.take_length]
      have hle := ahead_len x L
      refine ⟨_, _, _, c64 (aheadOf x L) (by omega) _, ?_⟩
      conv => whnf
      have c2 := fun H => c85 (sortI (aheadOf x L)) (by rw [sortI_len]; omega) H
      rw [sortI_len] at c2
      refine ⟨_, _, _, c2 _, ?_⟩
      conv => whnf
      have hr : lAhead l x many = compI (sortI (aheadOf x L)) := by rw [hL]; rfl
      rw [hr]
      exact ⟨[3], rfl, And.intro rfl rfl, And.intro (And.intro rfl (And.intro rfl rfl)) True.intro⟩
theorem encI_comp (s : List Int) : DV.sl ((rowI (compZ s)).take (compI s).length) = encI (compI s) := by
  unfold rowI compZ encI
  rw [List.map_append, List.take_append_of_le_length (by simp), List.take_of_length_le (by simp)]
theorem c45 (l : Locks) (x : Lock) (many : Nat) (hm : many ≤ l.queue.length) (h1 : l.held.length < 100000) (h2 : l.queue.length < 100000) (H : List (List Blk)) : CallEq X H 66 [pLocks l, pLock x, .d (.int .i64 many)] (.d (encI (lAhead l x many))) [] :=
  (c45r l x many hm h1 h2 H).freeze 1 (by
    change PV.d (.sl (List.take (lAhead l x many).length (rowI _))) = _
    unfold lAhead
    rw [encI_comp])
end Go.Proofs.Ve

/- Whether locks may be; who waits, and for whom. -/
set_option maxRecDepth 100000
set_option linter.all false
namespace Go.Proofs.Ve
open Go
def lQok (l : Locks) (y : Lock) (k : Nat) : Bool := place l.queue y.owner == (k : Int) && decide (((lAhead l y k).length : Int) > 0)
def lQ (l : Locks) : List Lock → Nat → Bool
  | [], _ => true
  | y :: ys, k => bif lQok l y k then lQ l ys (k + 1) else false
theorem lQ_step {l : Locks} {k : Nat} {y : Lock} (h : l.queue[k]? = some y) : lQ l (l.queue.drop k) k = bif lQok l y k then lQ l (l.queue.drop (k + 1)) (k + 1) else false := by
  have hk := (List.getElem?_eq_some_iff.1 h).1
  rw [List.drop_eq_getElem_cons hk, (List.getElem?_eq_some_iff.1 h).2, lQ]
def lCheck (l : Locks) : Bool :=
  !(decide ((l.held.length : Int) + l.queue.length > 40) || (l.held.any (fun x => !lMay x) || l.queue.any fun x => !lMay x)) && (lQ l l.queue 0 && (singleFrom [] l.held && !l.queue.any fun x => l.held.any (lWeak x)))
theorem c19 (l : Locks) (h1 : l.held.length < 100000) (h2 : l.queue.length < 100000) (H : List (List Blk)) : CallEq X H 32 [pLocks l] (.d (.bool (lCheck l))) [] := by
  refine callEq_of_body X_ok rfl Tryz.func32 rfl ?_
  conv => whnf
  intro z hz
  conv => whnf
  rw [wrap_small (by (first | omega | (dsimp only; omega) | (simp; done) | (simp; omega))) (by (first | omega | (dsimp only; omega) | (simp; done) | (simp; omega))), List.length_map, List.length_map] at hz
  subst hz
  have key : (decide ((l.held.length : Int) + l.queue.length > 40)) = false → l.held.any (fun x => !lMay x) = false → l.queue.any (fun x => !lMay x) = false → lCheck l = (lQ l l.queue 0 && (singleFrom [] l.held && !l.queue.any fun x => l.held.any (lWeak x))) := fun a b c => by
    unfold lCheck; rw [a, b, c]; rfl
  refine And.intro (fun e1 => ?_) (fun e1 => ?_) <;> (conv => whnf)
  · refine ⟨_, _, c51a l.held (by omega) _, True.intro, ?_⟩
    conv => whnf
    refine And.intro (fun e2 => ?_) (fun e2 => ?_) <;> (conv => whnf)
    · refine ⟨_, _, c51a l.queue (by omega) _, True.intro, ?_⟩
      conv => whnf
      refine And.intro (fun e3 => ?_) (fun e3 => ?_) <;> (conv => whnf)
      · refine ⟨[], rfl, ?_, True.intro⟩
        show DV.bool _ = .bool _
        unfold lCheck; rw [e1, e3]; simp
      · have hk := key (by simpa using e1) (by simpa using e2) (by simpa using e3)
        refine loopV_of (fun k : Nat => ⟨[.any, .ptr 0 0 0, .any, .any, .ptr 0 1 0, .func (.func 66) [.agg [.d (encLocks l.held), .d (encLocks l.queue)]] [], .any, .any, .any, .any, .any, .any, .any, .any, .any, .any, .any, .any, .any, .any, .any, .any, .any, .any, .any, .any, .any, .any, .any, .any, .any, .any, .any, .d (encLocks l.queue), .d (.int .i64 (l.queue.map cLock).length), .d (.int .i64 k), .any, .any, .any, .any, .any, .any, .any, .any, .any, .any, .any, .any, .any, .any, .any, .any, .any, .any, .any, .any, .any, .any, .any, .any, .any, .any, .any, .any, .any], [.box [.d (encLocks l.held), .d (encLocks l.queue)], .box [.d (encLocks l.held), .d (encLocks l.queue)]]⟩)
          (fun k => k ≤ l.queue.length ∧ lQ l l.queue 0 = lQ l (l.queue.drop k) k) (fun k => l.queue.length - k) 0 [0, 1] ⟨Nat.zero_le _, rfl⟩ ?_ ?_
        · refine And.intro rfl (And.intro ?_ ?_)
          all_goals (repeat' (first | exact True.intro | exact rfl | refine And.intro ?_ ?_))
        · rintro k ⟨hkl, hidx⟩
          conv => whnf
          refine And.intro (fun h_ => ?_) (fun h_ => ?_)
          · conv => whnf
            have hk' : k < l.queue.length := by simpa using h_
            obtain ⟨y, hy⟩ : ∃ y, l.queue[k]? = some y := ⟨_, List.getElem?_eq_getElem hk'⟩
            have hst := lQ_step hy
            have out : lQok l y k = false → DV.bool false = .bool (lCheck l) := fun h => by rw [hk, hidx, hst, h]; rfl
            have next : lQok l y k = true → lQ l l.queue 0 = lQ l (l.queue.drop (k + 1)) (k + 1) := fun h => by rw [hidx, hst, h]; rfl
            refine ⟨by omega, cLock y, by simp [hy], rfl, ?_⟩
            conv => whnf
            refine ⟨_, _, c44 l y.owner (by omega) _, True.intro, ?_⟩
            conv => whnf
            refine And.intro (fun q1 => ?_) (fun q1 => ?_) <;> (conv => whnf)
            · refine ⟨_, _, c45 l y k (by omega) h1 h2 _, True.intro, ?_⟩
              conv => whnf
              have e0 : (((lAhead l y k).map fun x => [DV.int .i64 x]).length : Int) = ((lAhead l y k).length : Int) := by simp
              refine And.intro (fun q2 => ?_) (fun q2 => ?_) <;> (conv => whnf)
              · intro z hz
                conv => whnf
                rw [wrap_small (by omega) (by omega)] at hz
                subst hz
                refine ⟨k + 1, [0, 1], ⟨by omega, next ?_⟩, by omega, And.intro rfl (And.intro ?_ ?_)⟩
                · unfold lQok; rw [q1, ← e0]; simpa using q2
                all_goals (repeat' (first | exact True.intro | exact rfl | refine And.intro ?_ ?_))
              · refine ⟨[], rfl, out ?_, True.intro⟩
                unfold lQok; rw [q1, ← e0]; simpa using q2
            · refine ⟨[], rfl, out ?_, True.intro⟩
              unfold lQok; rw [q1]; rfl
          · conv => whnf
            have hk' : k = l.queue.length := by simp at h_; omega
            have hq : lCheck l = (singleFrom [] l.held && !l.queue.any fun x => l.held.any (lWeak x)) := by rw [hk, hidx, hk', List.drop_length]; rfl
            refine ⟨_, _, c52 l (by omega) _, True.intro, ?_⟩
            conv => whnf
            refine And.intro (fun q1 => ?_) (fun q1 => ?_) <;> (conv => whnf)
            · refine ⟨_, _, c51c l l.queue (by omega) (by omega) _, True.intro, ?_⟩
              conv => whnf
              refine ⟨[], rfl, ?_, True.intro⟩
              show DV.bool _ = .bool _
              rw [hq, q1]; rfl
            · refine ⟨[], rfl, ?_, True.intro⟩
              show DV.bool false = .bool _
              rw [hq, q1]; rfl
    · refine ⟨[], rfl, ?_, True.intro⟩
      show DV.bool _ = .bool _
      unfold lCheck; rw [e1, e2]; simp
  · refine ⟨[], rfl, ?_, True.intro⟩
    show DV.bool _ = .bool _
    unfold lCheck; rw [e1]; simp
def lWaits (l : Locks) (o : Int) : Bool := lCheck l && decide (place l.queue o ≥ 0)
theorem c23 (l : Locks) (o : Int) (h1 : l.held.length < 100000) (h2 : l.queue.length < 100000) (H : List (List Blk)) : CallEq X H 17 [pLocks l, .d (.int .i64 o)] (.d (.bool (lWaits l o))) [] := by
  unfold lWaits
  refine callEq_of_body X_ok rfl Tryz.func17 rfl ?_
  conv => whnf
  repeat' (first
    | (refine And.intro (fun h_ => ?_) (fun h_ => ?_) <;> (conv => whnf))
    | (refine ⟨_, _, c19 l h1 h2 _, (by first | exact True.intro | exact And.intro rfl flat_nil), ?_⟩; conv => whnf)
    | (refine ⟨_, _, c44 l o (by omega) _, (by first | exact True.intro | exact And.intro rfl flat_nil), ?_⟩; conv => whnf)
    | (intro z_ hz_; conv => whnf)
    | (refine ⟨[], rfl, ?_, True.intro⟩; (conv => whnf); (first | done | (simp_all only [refP, Bool.not_true, Bool.not_false, Bool.true_and, Bool.false_and, Bool.and_true, Bool.and_false, Bool.true_or, Bool.false_or, Bool.or_true, Bool.or_false, Bool.not_not, Bool.not_eq_true', Bool.not_eq_false', if_true, if_false, Bool.false_eq_true, Bool.true_eq_false, List.length_map]; done)))
    | fail)
def lBlockers (l : Locks) (o : Int) : List Int := if lWaits l o then (match l.queue[(place l.queue o).toNat]? with | some y => lAhead l y (place l.queue o).toNat | none => []) else []
theorem place_at {l : List Lock} {o : Int} (h : place l o ≥ 0) : ∃ y, l[(place l o).toNat]? = some y ∧ y.owner = o := by
  unfold place at *
  have key : ∀ (l : List Lock) (k : Int), 0 ≤ k → idxOf (fun x : Lock => x.owner == o) l k ≥ 0 → k ≤ idxOf (fun x : Lock => x.owner == o) l k ∧ ∃ y, l[(idxOf (fun x : Lock => x.owner == o) l k - k).toNat]? = some y ∧ y.owner = o := by
    intro l
    induction l with
    | nil => intro k hk h; simp [idxOf] at h
    | cons x l ih =>
      intro k hk h
      cases hx : (x.owner == o) with
      | true => rw [idxOf, hx]; exact ⟨by simp, x, by simp, by simpa using hx⟩
      | false =>
        rw [idxOf, hx] at h ⊢
        obtain ⟨h1, y, h2, h3⟩ := ih (k + 1) (by omega) h
        refine ⟨by simp; omega, y, ?_, h3⟩
        simp only [cond_false]
        rw [show (idxOf (fun x : Lock => x.owner == o) l (k + 1) - k).toNat = (idxOf (fun x : Lock => x.owner == o) l (k + 1) - (k + 1)).toNat + 1 by omega]
        simpa using h2
  obtain ⟨_, y, h1, h2⟩ := key l 0 (by omega) h
  exact ⟨y, by simpa using h1, h2⟩
theorem c17 (l : Locks) (o : Int) (h1 : l.held.length < 100000) (h2 : l.queue.length < 100000) (H : List (List Blk)) : CallEq X H 62 [pLocks l, .d (.int .i64 o)] (.d (encI (lBlockers l o))) [] := by
  refine callEq_of_body X_ok rfl Tryz.func62 rfl ?_
  conv => whnf
  refine ⟨_, _, c23 l o h1 h2 _, True.intro, ?_⟩
  conv => whnf
  refine And.intro (fun q1 => ?_) (fun q1 => ?_) <;> (conv => whnf)
  · refine ⟨[], rfl, ?_, True.intro⟩
    have q1 : lWaits l o = false := by simpa using q1
    show DV.sl [] = encI (lBlockers l o)
    unfold lBlockers; rw [q1]; rfl
  · have q1 : lWaits l o = true := by simpa using q1
    have hp : place l.queue o ≥ 0 := by unfold lWaits at q1; simp at q1; exact q1.2
    obtain ⟨y, hy, ho⟩ := place_at hp
    refine ⟨_, _, c44 l o (by omega) _, True.intro, ?_⟩
    conv => whnf
    refine ⟨hp, cLock y, by simp [hy], rfl, ?_⟩
    conv => whnf
    have hlt := (List.getElem?_eq_some_iff.1 hy).1
    have hc := fun H => c45 l y (place l.queue o).toNat (by omega) h1 h2 H
    rw [show (((place l.queue o).toNat : Nat) : Int) = place l.queue o by omega] at hc
    refine ⟨_, _, hc _, True.intro, ?_⟩
    conv => whnf
    refine ⟨[], rfl, ?_, True.intro⟩
    show encI _ = encI (lBlockers l o)
    unfold lBlockers; rw [q1, if_pos rfl, hy]
end Go.Proofs.Ve

/- The document's answer: by whom one is held up; whether locks may be. -/
set_option maxRecDepth 100000
set_option linter.all false
namespace Go.Proofs.Ve
open Go
def ownOk (y : Lock) : Prop := y.owner = 0 ∨ y.owner = 1 ∨ y.owner = 2 ∨ y.owner = 3
theorem may_own {y : Lock} (h : rLMay y = true) : ownOk y := by
  unfold ownOk
  unfold rLMay at h
  cases h1 : (decide (y.owner < 0) || decide (y.owner > 3)) with
  | true => rw [h1] at h; simp at h
  | false => simp at h1; omega
def anyB (x : Lock) (ys : List Lock) (o : Int) : Bool := ys.any fun y => rClash y x && y.owner == o
theorem anyB_snoc {x y : Lock} {l : List Lock} {k : Nat} (h : l[k]? = some y) (pre : List Lock) (o : Int) : anyB x (pre ++ l.take (k + 1)) o = (anyB x (pre ++ l.take k) o || (rClash y x && y.owner == o)) := by
  unfold anyB
  rw [take_snoc' h, ← List.append_assoc, List.any_append]
  simp
def pB (x : Lock) (ys : List Lock) : PV := .agg [.d (.bool (anyB x ys 0)), .d (.bool (anyB x ys 1)), .d (.bool (anyB x ys 2)), .d (.bool (anyB x ys 3))]
theorem idx4 {K : Nat → Prop} {n : Int} (h : n = 0 ∨ n = 1 ∨ n = 2 ∨ n = 3) (h0 : n = 0 → K 0) (h1 : n = 1 → K 1) (h2 : n = 2 → K 2) (h3 : n = 3 → K 3) : 0 ≤ n ∧ n < 4 ∧ ∃ k : Nat, n = k ∧ K k := by
  rcases h with h | h | h | h
  · exact ⟨by omega, by omega, 0, h, h0 h⟩
  · exact ⟨by omega, by omega, 1, h, h1 h⟩
  · exact ⟨by omega, by omega, 2, h, h2 h⟩
  · exact ⟨by omega, by omega, 3, h, h3 h⟩
theorem c48 (l : Locks) (x : Lock) (at_ : Nat) (hx : l.queue[at_]? = some x) (h1 : l.held.length < 100000) (h2 : l.queue.length < 100000) (o1 : ∀ y ∈ l.held, ownOk y) (o2 : ∀ y ∈ l.queue, ownOk y) (H : List (List Blk)) :
    CallEq X H 57 [pLocks l, .d (.int .i64 at_)] (pB x (l.held ++ l.queue.take at_)) [] := by
  have hat := (List.getElem?_eq_some_iff.1 hx).1
  refine callEq_of_body X_ok rfl Tryz.func57 rfl ?_
  conv => whnf
  refine loopV_of (fun k : Nat => ⟨[.any, .d (.int .i64 at_), .ptr 0 0 0, .any, .ptr 0 1 0, .ptr 0 2 0, .d (.int .i64 k), .any, .any, .any, .any, .any, .any, .any, .any, .any, .any, .any, .any, .any, .any, .any, .any, .any, .any, .any, .any, .any, .any, .any, .any, .any, .any, .any, .any, .any, .any, .any, .any, .any, .any, .any, .any, .any, .any, .any, .any, .any, .any, .any, .any, .any, .any, .any, .any, .any, .any, .any, .any, .any, .any, .any], [.box [.d (encLocks l.held), .d (encLocks l.queue)], .box [.kb false, .kb false, .kb false, .kb false], .box [.d (.bool (anyB x ([] ++ l.held.take k) 0)), .d (.bool (anyB x ([] ++ l.held.take k) 1)), .d (.bool (anyB x ([] ++ l.held.take k) 2)), .d (.bool (anyB x ([] ++ l.held.take k) 3))]]⟩)
    (fun k => k ≤ l.held.length) (fun k => l.held.length - k) 0 [0, 1, 2] (Nat.zero_le _) ?_ ?_
  · refine And.intro rfl (And.intro ?_ ?_)
    all_goals (repeat' (first | exact True.intro | exact rfl | refine And.intro ?_ ?_))
    skip
  · intro k hkl
    conv => whnf
    refine And.intro (fun h_ => ?_) (fun h_ => ?_)
    · conv => whnf
      have hk' : k < l.held.length := by simpa using h_
      obtain ⟨y, hy⟩ : ∃ y, l.held[k]? = some y := ⟨_, List.getElem?_eq_getElem (by omega)⟩
      have hs := fun o => anyB_snoc (x := x) hy [] o
      refine ⟨by omega, cLock y, by simp [hy], rfl, ?_⟩
      conv => whnf
      refine ⟨by omega, cLock x, by simp [hx], rfl, ?_⟩
      conv => whnf
      refine ⟨_, _, c22 y x _, True.intro, ?_⟩
      conv => whnf
      refine And.intro (fun q1 => ?_) (fun q1 => ?_) <;> (conv => whnf)
      · simp only [q1, Bool.true_and] at hs
        refine ⟨by omega, cLock y, by simp [hy], rfl, ?_⟩
        conv => whnf
        refine idx4 (o1 y (List.mem_of_getElem? hy)) (fun ho => ?_) (fun ho => ?_) (fun ho => ?_) (fun ho => ?_)
        all_goals
          simp only [ho] at hs
          conv => whnf
          intro z hz
          conv => whnf
          rw [wrap_small (by omega) (by omega)] at hz
          subst hz
          refine ⟨k + 1, [0, 1, 2], by omega, by omega, And.intro rfl (And.intro ?_ ?_)⟩
          all_goals (repeat' (first | exact True.intro | exact rfl | refine And.intro ?_ ?_))
          all_goals (show DV.bool _ = DV.bool _; rw [hs]; simp)
      · simp only [q1, Bool.false_and, Bool.or_false] at hs
        intro z hz
        conv => whnf
        rw [wrap_small (by omega) (by omega)] at hz
        subst hz
        refine ⟨k + 1, [0, 1, 2], by omega, by omega, And.intro rfl (And.intro ?_ ?_)⟩
        all_goals (repeat' (first | exact True.intro | exact rfl | refine And.intro ?_ ?_))
        all_goals (show DV.bool _ = DV.bool _; rw [hs])
    · conv => whnf
      have hk' : k = l.held.length := by simp at h_; omega
      subst hk'
      rw [List.take_length, List.nil_append]
      refine loopV_of (fun k : Nat => ⟨[.any, .d (.int .i64 at_), .ptr 0 0 0, .any, .ptr 0 1 0, .ptr 0 2 0, .any, .any, .d (.int .i64 k), .any, .any, .any, .any, .any, .any, .any, .any, .any, .any, .any, .any, .any, .any, .any, .any, .any, .any, .any, .any, .any, .any, .any, .any, .any, .any, .any, .any, .any, .any, .any, .any, .any, .any, .any, .any, .any, .any, .any, .any, .any, .any, .any, .any, .any, .any, .any, .any, .any, .any, .any, .any, .any], [.box [.d (encLocks l.held), .d (encLocks l.queue)], .box [.kb false, .kb false, .kb false, .kb false], .box [.d (.bool (anyB x (l.held ++ l.queue.take k) 0)), .d (.bool (anyB x (l.held ++ l.queue.take k) 1)), .d (.bool (anyB x (l.held ++ l.queue.take k) 2)), .d (.bool (anyB x (l.held ++ l.queue.take k) 3))]]⟩)
        (fun k => k ≤ at_) (fun k => at_ - k) 0 [0, 1, 2] (Nat.zero_le _) ?_ ?_
      · refine And.intro rfl (And.intro ?_ ?_)
        all_goals (repeat' (first | exact True.intro | exact rfl | refine And.intro ?_ ?_))
        all_goals (show DV.bool _ = DV.bool _; simp; done)
      · intro k hkl
        conv => whnf
        refine And.intro (fun h_ => ?_) (fun h_ => ?_)
        · conv => whnf
          have hk' : k < at_ := by simpa using h_
          obtain ⟨y, hy⟩ : ∃ y, l.queue[k]? = some y := ⟨_, List.getElem?_eq_getElem (by omega)⟩
          have hs := fun o => anyB_snoc (x := x) hy l.held o
          refine ⟨by omega, cLock y, by simp [hy], rfl, ?_⟩
          conv => whnf
          refine ⟨by omega, cLock x, by simp [hx], rfl, ?_⟩
          conv => whnf
          refine ⟨_, _, c22 y x _, True.intro, ?_⟩
          conv => whnf
          refine And.intro (fun q1 => ?_) (fun q1 => ?_) <;> (conv => whnf)
          · simp only [q1, Bool.true_and] at hs
            refine ⟨by omega, cLock y, by simp [hy], rfl, ?_⟩
            conv => whnf
            refine idx4 (o2 y (List.mem_of_getElem? hy)) (fun ho => ?_) (fun ho => ?_) (fun ho => ?_) (fun ho => ?_)
            all_goals
              simp only [ho] at hs
              conv => whnf
              intro z hz
              conv => whnf
              rw [wrap_small (by omega) (by omega)] at hz
              subst hz
              refine ⟨k + 1, [0, 1, 2], by omega, by omega, And.intro rfl (And.intro ?_ ?_)⟩
              all_goals (repeat' (first | exact True.intro | exact rfl | refine And.intro ?_ ?_))
              all_goals (show DV.bool _ = DV.bool _; rw [hs]; simp)
          · simp only [q1, Bool.false_and, Bool.or_false] at hs
            intro z hz
            conv => whnf
            rw [wrap_small (by omega) (by omega)] at hz
            subst hz
            refine ⟨k + 1, [0, 1, 2], by omega, by omega, And.intro rfl (And.intro ?_ ?_)⟩
            all_goals (repeat' (first | exact True.intro | exact rfl | refine And.intro ?_ ?_))
            all_goals (show DV.bool _ = DV.bool _; rw [hs])
        · conv => whnf
          have hk' : k = at_ := by simp at h_; omega
          subst hk'
          exact ⟨[], rfl, (by (repeat' (first | exact True.intro | exact rfl | refine And.intro ?_ ?_))), True.intro⟩
/-! ### owners, in a list -/
def bitsL : List Bool → Int → List Int
  | [], _ => []
  | b :: bs, i => bif b then i :: bitsL bs (i + 1) else bitsL bs (i + 1)
theorem bitsL_len : ∀ (l : List Bool) (i : Int), (bitsL l i).length ≤ l.length
  | [], i => Nat.le_refl _
  | b :: bs, i => by
    have := bitsL_len bs (i + 1)
    cases b <;> simp [bitsL] <;> omega
def pBits (b0 b1 b2 b3 : Bool) : PV := .agg [.d (.bool b0), .d (.bool b1), .d (.bool b2), .d (.bool b3)]
theorem c47r (b0 b1 b2 b3 : Bool) (H : List (List Blk)) : CallEq X H 56 [pBits b0 b1 b2 b3] (.row 0 0 (bitsL [b0, b1, b2, b3] 0).length) [⟨3, 1, rowI (bitsL [b0, b1, b2, b3] 0)⟩] := by
  refine callEq_of_body X_ok rfl Tryz.func56 rfl ?_
  conv => whnf
  refine loopV_of (fun k : Nat => ⟨[.any, .ptr 0 0 0, .any, .row 0 1 (bitsL ([b0, b1, b2, b3].take k) 0).length, .d (.int .i64 k), .any, .any, .any, .any, .any, .any, .any, .any, .any, .any, .any, .any], [.box [.d (.bool b0), .d (.bool b1), .d (.bool b2), .d (.bool b3)], .row 3 1 (rowI (bitsL ([b0, b1, b2, b3].take k) 0))]⟩)
    (fun k => k ≤ 4) (fun k => 4 - k) 0 [0, 1] (Nat.zero_le _) ?_ ?_
  · refine And.intro rfl (And.intro ?_ ?_)
    all_goals (repeat' (first | exact True.intro | exact rfl | refine And.intro ?_ ?_))
  · intro k hk
    have step : ∀ (k : Nat) (b : Bool), [b0, b1, b2, b3][k]? = some b → bitsL ([b0, b1, b2, b3].take (k + 1)) 0 = bitsL ([b0, b1, b2, b3].take k) 0 ++ bif b then [(k : Int)] else [] := by
      intro k b h
      match k, h with
      | 0, h => simp at h; subst h; cases b0 <;> rfl
      | 1, h => simp at h; subst h; cases b0 <;> cases b1 <;> rfl
      | 2, h => simp at h; subst h; cases b0 <;> cases b1 <;> cases b2 <;> rfl
      | 3, h => simp at h; subst h; cases b0 <;> cases b1 <;> cases b2 <;> cases b3 <;> rfl
      | k + 4, h => simp at h
    match k, hk with
    | 4, _ =>
      conv => whnf
      refine And.intro (fun h_ => absurd h_ (by decide)) (fun h_ => ?_)
      conv => whnf
      exact ⟨[1], rfl, And.intro rfl rfl, And.intro (And.intro rfl (And.intro rfl rfl)) True.intro⟩
    | 0, _ =>
      have st := step 0 b0 rfl
      have hl : (bitsL [] 0).length ≤ 0 := bitsL_len _ _
      conv => whnf
      refine And.intro (fun h_ => ?_) (fun h_ => absurd h_ (by decide))
      conv => whnf
      refine ⟨by decide, by decide, 0, rfl, ?_⟩
      conv => whnf
      refine And.intro (fun q1 => ?_) (fun q1 => ?_) <;> (conv => whnf)
      · refine ⟨fun y hy => by simp at hy; subst hy; rfl, ?_⟩
        conv => whnf
        refine ⟨(rowI_len _).symm, by (first | omega | (dsimp only; omega) | (simp; done) | (simp; omega)), ?_⟩
        conv => whnf
        intro z hz
        conv => whnf
        subst hz
        simp only [q1, cond_true] at st
        refine ⟨0 + 1, [0, 2], by omega, by omega, And.intro rfl (And.intro ?_ ?_)⟩
        all_goals (repeat' (first | exact True.intro | exact rfl | refine And.intro ?_ ?_))
        · show PV.row 0 2 _ = PV.row 0 2 _
          simp only [q1, st]; simp
        · simp only [q1, st]; simp [rowI]
      · intro z hz
        conv => whnf
        subst hz
        simp only [q1, cond_false, List.append_nil] at st
        refine ⟨0 + 1, [0, 1], by omega, by omega, And.intro rfl (And.intro ?_ ?_)⟩
        all_goals (repeat' (first | exact True.intro | exact rfl | refine And.intro ?_ ?_))
        · show PV.row 0 1 _ = PV.row 0 1 _
          simp only [q1, st]
        · simp only [q1, st]
    | 1, _ =>
      have st := step 1 b1 rfl
      have hl : (bitsL [b0] 0).length ≤ 1 := bitsL_len _ _
      conv => whnf
      refine And.intro (fun h_ => ?_) (fun h_ => absurd h_ (by decide))
      conv => whnf
      refine ⟨by decide, by decide, 1, rfl, ?_⟩
      conv => whnf
      refine And.intro (fun q1 => ?_) (fun q1 => ?_) <;> (conv => whnf)
      · refine ⟨fun y hy => by simp at hy; subst hy; rfl, ?_⟩
        conv => whnf
        refine ⟨(rowI_len _).symm, by (first | omega | (dsimp only; omega) | (simp; done) | (simp; omega)), ?_⟩
        conv => whnf
        intro z hz
        conv => whnf
        subst hz
        simp only [q1, cond_true] at st
        refine ⟨1 + 1, [0, 2], by omega, by omega, And.intro rfl (And.intro ?_ ?_)⟩
        all_goals (repeat' (first | exact True.intro | exact rfl | refine And.intro ?_ ?_))
        · show PV.row 0 2 _ = PV.row 0 2 _
          simp only [q1, st]; simp
        · simp only [q1, st]; simp [rowI]
      · intro z hz
        conv => whnf
        subst hz
        simp only [q1, cond_false, List.append_nil] at st
        refine ⟨1 + 1, [0, 1], by omega, by omega, And.intro rfl (And.intro ?_ ?_)⟩
        all_goals (repeat' (first | exact True.intro | exact rfl | refine And.intro ?_ ?_))
        · show PV.row 0 1 _ = PV.row 0 1 _
          simp only [q1, st]
        · simp only [q1, st]
    | 2, _ =>
      have st := step 2 b2 rfl
      have hl : (bitsL [b0, b1] 0).length ≤ 2 := bitsL_len _ _
      conv => whnf
      refine And.intro (fun h_ => ?_) (fun h_ => absurd h_ (by decide))
      conv => whnf
      refine ⟨by decide, by decide, 2, rfl, ?_⟩
      conv => whnf
      refine And.intro (fun q1 => ?_) (fun q1 => ?_) <;> (conv => whnf)
      · refine ⟨fun y hy => by simp at hy; subst hy; rfl, ?_⟩
        conv => whnf
        refine ⟨(rowI_len _).symm, by (first | omega | (dsimp only; omega) | (simp; done) | (simp; omega)), ?_⟩
        conv => whnf
        intro z hz
        conv => whnf
        subst hz
        simp only [q1, cond_true] at st
        refine ⟨2 + 1, [0, 2], by omega, by omega, And.intro rfl (And.intro ?_ ?_)⟩
        all_goals (repeat' (first | exact True.intro | exact rfl | refine And.intro ?_ ?_))
        · show PV.row 0 2 _ = PV.row 0 2 _
          simp only [q1, st]; simp
        · simp only [q1, st]; simp [rowI]
      · intro z hz
        conv => whnf
        subst hz
        simp only [q1, cond_false, List.append_nil] at st
        refine ⟨2 + 1, [0, 1], by omega, by omega, And.intro rfl (And.intro ?_ ?_)⟩
        all_goals (repeat' (first | exact True.intro | exact rfl | refine And.intro ?_ ?_))
        · show PV.row 0 1 _ = PV.row 0 1 _
          simp only [q1, st]
        · simp only [q1, st]
    | 3, _ =>
      have st := step 3 b3 rfl
      have hl : (bitsL [b0, b1, b2] 0).length ≤ 3 := bitsL_len _ _
      conv => whnf
      refine And.intro (fun h_ => ?_) (fun h_ => absurd h_ (by decide))
      conv => whnf
      refine ⟨by decide, by decide, 3, rfl, ?_⟩
      conv => whnf
      refine And.intro (fun q1 => ?_) (fun q1 => ?_) <;> (conv => whnf)
      · refine ⟨fun y hy => by simp at hy; subst hy; rfl, ?_⟩
        conv => whnf
        refine ⟨(rowI_len _).symm, by (first | omega | (dsimp only; omega) | (simp; done) | (simp; omega)), ?_⟩
        conv => whnf
        intro z hz
        conv => whnf
        subst hz
        simp only [q1, cond_true] at st
        refine ⟨3 + 1, [0, 2], by omega, by omega, And.intro rfl (And.intro ?_ ?_)⟩
        all_goals (repeat' (first | exact True.intro | exact rfl | refine And.intro ?_ ?_))
        · show PV.row 0 2 _ = PV.row 0 2 _
          simp only [q1, st]; simp
        · simp only [q1, st]; simp [rowI]
      · intro z hz
        conv => whnf
        subst hz
        simp only [q1, cond_false, List.append_nil] at st
        refine ⟨3 + 1, [0, 1], by omega, by omega, And.intro rfl (And.intro ?_ ?_)⟩
        all_goals (repeat' (first | exact True.intro | exact rfl | refine And.intro ?_ ?_))
        · show PV.row 0 1 _ = PV.row 0 1 _
          simp only [q1, st]
        · simp only [q1, st]
theorem c47 (b0 b1 b2 b3 : Bool) (H : List (List Blk)) : CallEq X H 56 [pBits b0 b1 b2 b3] (.d (encI (bitsL [b0, b1, b2, b3] 0))) [] :=
  (c47r b0 b1 b2 b3 H).freeze 1 (by
    change PV.d (.sl (List.take _ (rowI _))) = _
    rw [List.take_of_length_le (by rw [rowI_len]; exact Nat.le_refl _)]; rfl)
end Go.Proofs.Ve

/- The document's answer: whether locks may be; who waits, and for whom. -/
set_option maxRecDepth 100000
set_option linter.all false
namespace Go.Proofs.Ve
open Go
def rTwice (x y : Lock) : Bool := rClash x y || (x.whole && y.whole && x.owner == y.owner && x.span.t == y.span.t)
def rHeldF (pre : List Lock) : List Lock → Bool
  | [] => true
  | x :: xs => bif rLMay x then (bif pre.any (rTwice x) then false else rHeldF (pre ++ [x]) xs) else false
theorem rHeld_step {l : List Lock} {k : Nat} {x : Lock} (h : l[k]? = some x) : rHeldF (l.take k) (l.drop k) = bif rLMay x then (bif (l.take k).any (rTwice x) then false else rHeldF (l.take (k + 1)) (l.drop (k + 1))) else false := by
  have hk := (List.getElem?_eq_some_iff.1 h).1
  have hx : l[k] = x := (List.getElem?_eq_some_iff.1 h).2
  rw [List.drop_eq_getElem_cons hk, hx, rHeldF, take_snoc' h]
def rQueF (pre : List Lock) : List Lock → Bool
  | [] => true
  | x :: xs => bif rLMay x then (bif pre.any (fun y => y.owner == x.owner) then false else rQueF (pre ++ [x]) xs) else false
theorem rQue_step {l : List Lock} {k : Nat} {x : Lock} (h : l[k]? = some x) : rQueF (l.take k) (l.drop k) = bif rLMay x then (bif (l.take k).any (fun y => y.owner == x.owner) then false else rQueF (l.take (k + 1)) (l.drop (k + 1))) else false := by
  have hk := (List.getElem?_eq_some_iff.1 h).1
  have hx : l[k] = x := (List.getElem?_eq_some_iff.1 h).2
  rw [List.drop_eq_getElem_cons hk, hx, rQueF, take_snoc' h]
def rWeak (x y : Lock) : Bool := x.whole && y.whole && x.owner == y.owner && x.span.t == y.span.t && !rCovers x.mode y.mode
def rAhead (l : Locks) (x : Lock) (k : Nat) : List Int := bitsL [anyB x (l.held ++ l.queue.take k) 0, anyB x (l.held ++ l.queue.take k) 1, anyB x (l.held ++ l.queue.take k) 2, anyB x (l.held ++ l.queue.take k) 3] 0
def rQ2 (l : Locks) : List Lock → Nat → Bool
  | [], _ => true
  | x :: xs, k => bif ((rAhead l x k).length : Int) == 0 then false else bif l.held.any (rWeak x) then false else rQ2 l xs (k + 1)
theorem rQ2_step {l : Locks} {k : Nat} {x : Lock} (h : l.queue[k]? = some x) : rQ2 l (l.queue.drop k) k = bif ((rAhead l x k).length : Int) == 0 then false else bif l.held.any (rWeak x) then false else rQ2 l (l.queue.drop (k + 1)) (k + 1) := by
  have hk := (List.getElem?_eq_some_iff.1 h).1
  rw [List.drop_eq_getElem_cons hk, (List.getElem?_eq_some_iff.1 h).2, rQ2]
def rCheck (l : Locks) : Bool := !decide ((l.held.length : Int) + l.queue.length > 40) && (rHeldF [] l.held && (rQueF [] l.queue && rQ2 l l.queue 0))
theorem any_step {α : Type} {p : α → Bool} {l : List α} {k : Nat} {x : α} (h : l[k]? = some x) : (l.drop k).any p = (p x || (l.drop (k + 1)).any p) := by
  have hk := (List.getElem?_eq_some_iff.1 h).1
  rw [List.drop_eq_getElem_cons hk, (List.getElem?_eq_some_iff.1 h).2, List.any_cons]
theorem heldF_may : ∀ (l pre : List Lock), rHeldF pre l = true → ∀ y ∈ l, rLMay y = true
  | [], _, _, y, h => by cases h
  | x :: l, pre, h, y, hy => by
    rw [rHeldF] at h
    cases h1 : rLMay x with
    | false => rw [h1] at h; cases h
    | true =>
      rw [h1] at h
      cases h2 : pre.any (rTwice x) with
      | true => rw [h2] at h; cases h
      | false =>
        rw [h2] at h
        cases hy with
        | head => exact h1
        | tail _ hy => exact heldF_may l _ h y hy
theorem queF_may : ∀ (l pre : List Lock), rQueF pre l = true → ∀ y ∈ l, rLMay y = true
  | [], _, _, y, h => by cases h
  | x :: l, pre, h, y, hy => by
    rw [rQueF] at h
    cases h1 : rLMay x with
    | false => rw [h1] at h; cases h
    | true =>
      rw [h1] at h
      cases h2 : pre.any (fun y => y.owner == x.owner) with
      | true => rw [h2] at h; cases h
      | false =>
        rw [h2] at h
        cases hy with
        | head => exact h1
        | tail _ hy => exact queF_may l _ h y hy
def bLocks (l : Locks) : Blk := .box [.d (encLocks l.held), .d (encLocks l.queue)]
theorem c20 (l : Locks) (h1 : l.held.length < 100000) (h2 : l.queue.length < 100000) (H : List (List Blk)) : CallEq X H 37 [pLocks l] (.d (.bool (rCheck l))) [] := by
  refine callEq_of_body X_ok rfl Tryz.func37 rfl ?_
  conv => whnf
  intro z hz
  conv => whnf
  rw [wrap_small (by (first | omega | (dsimp only; omega) | (simp; done) | (simp; omega))) (by (first | omega | (dsimp only; omega) | (simp; done) | (simp; omega))), List.length_map, List.length_map] at hz
  subst hz
  refine And.intro (fun e1 => ?_) (fun e1 => ?_) <;> (conv => whnf)
  · refine ⟨[], rfl, ?_, True.intro⟩
    show DV.bool _ = .bool _
    unfold rCheck; rw [e1]; rfl
  have k1 : rCheck l = (rHeldF [] l.held && (rQueF [] l.queue && rQ2 l l.queue 0)) := by unfold rCheck; rw [e1]; rfl
  refine loopV_of (fun k : Nat => ⟨[.any, .ptr 0 0 0, .any, .d (.int .i64 k), .any, .any, .any, .any, .any, .any, .any, .any, .any, .any, .any, .any, .any, .any, .any, .any, .any, .any, .any, .any, .any, .any, .any, .any, .any, .any, .any, .any, .any, .any, .any, .any, .any, .any, .any, .any, .any, .any, .any, .any, .any, .any, .any, .any, .any, .any, .any, .any, .any, .any, .any, .any, .any, .any, .any, .any, .any, .any, .any, .any, .any, .any, .any, .any, .any, .any, .any, .any, .any, .any, .any, .any, .any, .any, .any, .any, .any, .any, .any, .any, .any, .any, .any, .any, .any, .any, .any, .any, .any, .any, .any, .any, .any, .any, .any, .any, .any, .any, .any, .any, .any, .any, .any, .any, .any, .any, .any, .any, .any, .any, .any, .any, .any, .any, .any, .any, .any, .any, .any, .any, .any, .any, .any, .any, .any, .any, .any, .any, .any, .any, .any, .any, .any, .any, .any, .any, .any, .any, .any, .any, .any, .any, .any, .any, .any, .any, .any, .any, .any, .any, .any, .any, .any, .any, .any, .any, .any, .any, .any, .any, .any, .any, .any, .any, .any, .any, .any], [bLocks l]⟩) (fun k => k ≤ l.held.length ∧ rHeldF [] l.held = rHeldF (l.held.take k) (l.held.drop k)) (fun k => l.held.length - k) 0 [0] ⟨Nat.zero_le _, rfl⟩ ?_ ?_
  · refine And.intro rfl (And.intro ?_ ?_)
    all_goals (repeat' (first | exact True.intro | exact rfl | refine And.intro ?_ ?_))
  · rintro k ⟨hk, hidx⟩
    conv => whnf
    refine And.intro (fun h_ => ?_) (fun h_ => ?_)
    · conv => whnf
      have hk' : k < l.held.length := by simpa using h_
      obtain ⟨x, hx⟩ : ∃ x, l.held[k]? = some x := ⟨_, List.getElem?_eq_getElem hk'⟩
      have hst := rHeld_step hx
      refine ⟨by omega, cLock x, by simp [hx], rfl, ?_⟩
      conv => whnf
      refine ⟨_, _, c54 x _, True.intro, ?_⟩
      conv => whnf
      refine And.intro (fun e2 => ?_) (fun e2 => ?_) <;> (conv => whnf)
      · have e2 : rLMay x = false := by simpa using e2
        refine ⟨[], rfl, ?_, True.intro⟩
        show DV.bool false = .bool _
        rw [k1, hidx, hst, e2]; rfl
      have e2 : rLMay x = true := by simpa using e2
      rw [e2] at hst
      refine loopV_of (fun j : Nat => ⟨[.any, .ptr 0 0 0, .any, .d (.int .i64 k), .ptr 0 1 0, .any, .d (.int .i64 j), .any, .any, .any, .any, .any, .any, .any, .any, .any, .any, .any, .any, .any, .any, .any, .any, .any, .any, .any, .any, .any, .any, .any, .any, .any, .any, .any, .any, .any, .any, .any, .any, .any, .any, .any, .any, .any, .any, .any, .any, .any, .any, .any, .any, .any, .any, .any, .any, .any, .any, .any, .any, .any, .any, .any, .any, .any, .any, .any, .any, .any, .any, .any, .any, .any, .any, .any, .any, .any, .any, .any, .any, .any, .any, .any, .any, .any, .any, .any, .any, .any, .any, .any, .any, .any, .any, .any, .any, .any, .any, .any, .any, .any, .any, .any, .any, .any, .any, .any, .any, .any, .any, .any, .any, .any, .any, .any, .any, .any, .any, .any, .any, .any, .any, .any, .any, .any, .any, .any, .any, .any, .any, .any, .any, .any, .any, .any, .any, .any, .any, .any, .any, .any, .any, .any, .any, .any, .any, .any, .any, .any, .any, .any, .any, .any, .any, .any, .any, .any, .any, .any, .any, .any, .any, .any, .any, .any, .any, .any, .any, .any, .any, .any, .any], [bLocks l, bLock x]⟩) (fun j => j ≤ k ∧ (l.held.take k).any (rTwice x) = ((l.held.take k).drop j).any (rTwice x)) (fun j => k - j) 0 [0, 1] ⟨Nat.zero_le _, rfl⟩ ?_ ?_
      · refine And.intro rfl (And.intro ?_ ?_)
        all_goals (repeat' (first | exact True.intro | exact rfl | refine And.intro ?_ ?_))
      · rintro j ⟨hj, hjdx⟩
        conv => whnf
        refine And.intro (fun h_ => ?_) (fun h_ => ?_)
        · conv => whnf
          have hj' : j < k := by simpa using h_
          obtain ⟨y, hy⟩ : ∃ y, l.held[j]? = some y := ⟨_, List.getElem?_eq_getElem (by omega)⟩
          have hsj := any_step (p := rTwice x) (l := l.held.take k) (k := j) (x := y) (by rw [List.getElem?_take_of_lt hj']; exact hy)
          refine ⟨by omega, cLock y, by simp [hy], rfl, ?_⟩
          conv => whnf
          refine ⟨_, _, c22 x y _, True.intro, ?_⟩
          conv => whnf
          have out : rTwice x y = true → DV.bool false = .bool (rCheck l) := fun h => by rw [k1, hidx, hst, hjdx, hsj, h]; rfl
          have next : rTwice x y = false → (l.held.take k).any (rTwice x) = ((l.held.take k).drop (j + 1)).any (rTwice x) := fun h => by rw [hjdx, hsj, h]; rfl
          clear hsj hjdx hst hidx k1
          repeat' (refine And.intro (fun _ => ?_) (fun _ => ?_) <;> (conv => whnf))
          all_goals (first
            | (refine ⟨[], rfl, out ?_, True.intro⟩; clear out next; unfold rTwice; simp_all; done)
            | (intro z hz
               conv => whnf
               rw [wrap_small (by omega) (by omega)] at hz
               subst hz
               refine ⟨j + 1, [0, 1], ⟨by omega, next ?_⟩, by omega, And.intro rfl (And.intro ?_ ?_)⟩
               · clear out next; unfold rTwice; simp_all; done
               all_goals (repeat' (first | exact True.intro | exact rfl | refine And.intro ?_ ?_))))
        · conv => whnf
          have hj' : j = k := by simp at h_; omega
          have hany : (l.held.take k).any (rTwice x) = false := by rw [hjdx, hj', List.drop_of_length_le (by rw [List.length_take]; omega)]; rfl
          intro z hz
          conv => whnf
          rw [wrap_small (by omega) (by omega)] at hz
          subst hz
          refine ⟨k + 1, [0], ⟨by omega, ?_⟩, by omega, And.intro rfl (And.intro ?_ ?_)⟩
          · rw [hidx, hst, hany]; rfl
          all_goals (repeat' (first | exact True.intro | exact rfl | refine And.intro ?_ ?_))
    · conv => whnf
      have hk' : k = l.held.length := by simp at h_; omega
      have hh : rHeldF [] l.held = true := by rw [hidx, hk', List.drop_length]; rfl
      have k2 : rCheck l = (rQueF [] l.queue && rQ2 l l.queue 0) := by rw [k1, hh]; rfl
      have o1 : ∀ y ∈ l.held, ownOk y := fun y hy => may_own (heldF_may _ _ hh y hy)
      clear hidx k1
      refine loopV_of (fun k : Nat => ⟨[.any, .ptr 0 0 0, .any, .any, .any, .any, .any, .any, .any, .d (.int .i64 k), .any, .any, .any, .any, .any, .any, .any, .any, .any, .any, .any, .any, .any, .any, .any, .any, .any, .any, .any, .any, .any, .any, .any, .any, .any, .any, .any, .any, .any, .any, .any, .any, .any, .any, .any, .any, .any, .any, .any, .any, .any, .any, .any, .any, .any, .any, .any, .any, .any, .any, .any, .any, .any, .any, .any, .any, .any, .any, .any, .any, .any, .any, .any, .any, .any, .any, .any, .any, .any, .any, .any, .any, .any, .any, .any, .any, .any, .any, .any, .any, .any, .any, .any, .any, .any, .any, .any, .any, .any, .any, .any, .any, .any, .any, .any, .any, .any, .any, .any, .any, .any, .any, .any, .any, .any, .any, .any, .any, .any, .any, .any, .any, .any, .any, .any, .any, .any, .any, .any, .any, .any, .any, .any, .any, .any, .any, .any, .any, .any, .any, .any, .any, .any, .any, .any, .any, .any, .any, .any, .any, .any, .any, .any, .any, .any, .any, .any, .any, .any, .any, .any, .any, .any, .any, .any, .any, .any, .any, .any, .any, .any], [bLocks l]⟩) (fun k => k ≤ l.queue.length ∧ rQueF [] l.queue = rQueF (l.queue.take k) (l.queue.drop k)) (fun k => l.queue.length - k) 0 [0] ⟨Nat.zero_le _, rfl⟩ ?_ ?_
      · refine And.intro rfl (And.intro ?_ ?_)
        all_goals (repeat' (first | exact True.intro | exact rfl | refine And.intro ?_ ?_))
      · rintro k ⟨hk, hidx⟩
        conv => whnf
        refine And.intro (fun h_ => ?_) (fun h_ => ?_)
        · conv => whnf
          have hk' : k < l.queue.length := by simpa using h_
          obtain ⟨x, hx⟩ : ∃ x, l.queue[k]? = some x := ⟨_, List.getElem?_eq_getElem hk'⟩
          have hst := rQue_step hx
          refine ⟨by omega, cLock x, by simp [hx], rfl, ?_⟩
          conv => whnf
          refine ⟨_, _, c54 x _, True.intro, ?_⟩
          conv => whnf
          refine And.intro (fun e2 => ?_) (fun e2 => ?_) <;> (conv => whnf)
          · have e2 : rLMay x = false := by simpa using e2
            refine ⟨[], rfl, ?_, True.intro⟩
            show DV.bool false = .bool _
            rw [k2, hidx, hst, e2]; rfl
          have e2 : rLMay x = true := by simpa using e2
          rw [e2] at hst
          refine loopV_of (fun j : Nat => ⟨[.any, .ptr 0 0 0, .any, .any, .any, .any, .any, .any, .any, .d (.int .i64 k), .any, .d (.int .i64 j), .any, .any, .any, .any, .any, .any, .any, .any, .any, .any, .any, .any, .any, .any, .any, .any, .any, .any, .any, .any, .any, .any, .any, .any, .any, .any, .any, .any, .any, .any, .any, .any, .any, .any, .any, .any, .any, .any, .any, .any, .any, .any, .any, .any, .any, .any, .any, .any, .any, .any, .any, .any, .any, .any, .any, .any, .any, .any, .any, .any, .any, .any, .any, .any, .any, .any, .any, .any, .any, .any, .any, .any, .any, .any, .any, .any, .any, .any, .any, .any, .any, .any, .any, .any, .any, .any, .any, .any, .any, .any, .any, .any, .any, .any, .any, .any, .any, .any, .any, .any, .any, .any, .any, .any, .any, .any, .any, .any, .any, .any, .any, .any, .any, .any, .any, .any, .any, .any, .any, .any, .any, .any, .any, .any, .any, .any, .any, .any, .any, .any, .any, .any, .any, .any, .any, .any, .any, .any, .any, .any, .any, .any, .any, .any, .any, .any, .any, .any, .any, .any, .any, .any, .any, .any, .any, .any, .any, .any, .any], [bLocks l]⟩) (fun j => j ≤ k ∧ (l.queue.take k).any (fun y => y.owner == x.owner) = ((l.queue.take k).drop j).any (fun y => y.owner == x.owner)) (fun j => k - j) 0 [0] ⟨Nat.zero_le _, rfl⟩ ?_ ?_
          · refine And.intro rfl (And.intro ?_ ?_)
            all_goals (repeat' (first | exact True.intro | exact rfl | refine And.intro ?_ ?_))
          · rintro j ⟨hj, hjdx⟩
            conv => whnf
            refine And.intro (fun h_ => ?_) (fun h_ => ?_)
            · conv => whnf
              have hj' : j < k := by simpa using h_
              obtain ⟨y, hy⟩ : ∃ y, l.queue[j]? = some y := ⟨_, List.getElem?_eq_getElem (by omega)⟩
              have hsj := any_step (p := fun y : Lock => y.owner == x.owner) (l := l.queue.take k) (k := j) (x := y) (by rw [List.getElem?_take_of_lt hj']; exact hy)
              refine ⟨by omega, cLock y, by simp [hy], rfl, ?_⟩
              conv => whnf
              refine ⟨by omega, cLock x, by simp [hx], rfl, ?_⟩
              conv => whnf
              refine And.intro (fun q => ?_) (fun q => ?_) <;> (conv => whnf)
              · refine ⟨[], rfl, ?_, True.intro⟩
                show DV.bool false = .bool _
                rw [k2, hidx, hst, hjdx, hsj, q]; rfl
              · intro z hz
                conv => whnf
                rw [wrap_small (by omega) (by omega)] at hz
                subst hz
                refine ⟨j + 1, [0], ⟨by omega, by rw [hjdx, hsj, q]; rfl⟩, by omega, And.intro rfl (And.intro ?_ ?_)⟩
                all_goals (repeat' (first | exact True.intro | exact rfl | refine And.intro ?_ ?_))
            · conv => whnf
              have hj' : j = k := by simp at h_; omega
              have hany : (l.queue.take k).any (fun y => y.owner == x.owner) = false := by rw [hjdx, hj', List.drop_of_length_le (by rw [List.length_take]; omega)]; rfl
              intro z hz
              conv => whnf
              rw [wrap_small (by omega) (by omega)] at hz
              subst hz
              refine ⟨k + 1, [0], ⟨by omega, ?_⟩, by omega, And.intro rfl (And.intro ?_ ?_)⟩
              · rw [hidx, hst, hany]; rfl
              all_goals (repeat' (first | exact True.intro | exact rfl | refine And.intro ?_ ?_))
        · conv => whnf
          have hk' : k = l.queue.length := by simp at h_; omega
          have hh : rQueF [] l.queue = true := by rw [hidx, hk', List.drop_length]; rfl
          have k3 : rCheck l = rQ2 l l.queue 0 := by rw [k2, hh]; rfl
          have o2 : ∀ y ∈ l.queue, ownOk y := fun y hy => may_own (queF_may _ _ hh y hy)
          clear hidx k2
          refine loopV_of (fun k : Nat => ⟨[.any, .ptr 0 0 0, .any, .any, .any, .any, .any, .any, .any, .any, .any, .any, .d (.int .i64 k), .any, .any, .any, .any, .any, .any, .any, .any, .any, .any, .any, .any, .any, .any, .any, .any, .any, .any, .any, .any, .any, .any, .any, .any, .any, .any, .any, .any, .any, .any, .any, .any, .any, .any, .any, .any, .any, .any, .any, .any, .any, .any, .any, .any, .any, .any, .any, .any, .any, .any, .any, .any, .any, .any, .any, .any, .any, .any, .any, .any, .any, .any, .any, .any, .any, .any, .any, .any, .any, .any, .any, .any, .any, .any, .any, .any, .any, .any, .any, .any, .any, .any, .any, .any, .any, .any, .any, .any, .any, .any, .any, .any, .any, .any, .any, .any, .any, .any, .any, .any, .any, .any, .any, .any, .any, .any, .any, .any, .any, .any, .any, .any, .any, .any, .any, .any, .any, .any, .any, .any, .any, .any, .any, .any, .any, .any, .any, .any, .any, .any, .any, .any, .any, .any, .any, .any, .any, .any, .any, .any, .any, .any, .any, .any, .any, .any, .any, .any, .any, .any, .any, .any, .any, .any, .any, .any, .any, .any], [bLocks l]⟩) (fun k => k ≤ l.queue.length ∧ rQ2 l l.queue 0 = rQ2 l (l.queue.drop k) k) (fun k => l.queue.length - k) 0 [0] ⟨Nat.zero_le _, rfl⟩ ?_ ?_
          · refine And.intro rfl (And.intro ?_ ?_)
            all_goals (repeat' (first | exact True.intro | exact rfl | refine And.intro ?_ ?_))
          · rintro k ⟨hk, hidx⟩
            conv => whnf
            refine And.intro (fun h_ => ?_) (fun h_ => ?_)
            · conv => whnf
              have hk' : k < l.queue.length := by simpa using h_
              obtain ⟨x, hx⟩ : ∃ x, l.queue[k]? = some x := ⟨_, List.getElem?_eq_getElem hk'⟩
              have hst := rQ2_step hx
              refine ⟨_, _, c48 l x k hx h1 h2 o1 o2 _, True.intro, ?_⟩
              conv => whnf
              refine ⟨_, _, c47 _ _ _ _ _, True.intro, ?_⟩
              conv => whnf
              have e0 : (((rAhead l x k).map fun x => [DV.int .i64 x]).length : Int) = ((rAhead l x k).length : Int) := by simp
              refine And.intro (fun e3 => ?_) (fun e3 => ?_) <;> (conv => whnf)
              · have e3 : (((rAhead l x k).map fun x => [DV.int .i64 x]).length : Int) == 0 := e3
                rw [e0] at e3
                refine ⟨[], rfl, ?_, True.intro⟩
                show DV.bool false = .bool _
                rw [k3, hidx, hst, e3]; rfl
              have e3 : ((((rAhead l x k).map fun x => [DV.int .i64 x]).length : Int) == 0) = false := e3
              rw [e0] at e3
              rw [e3] at hst
              refine loopV_of (fun j : Nat => ⟨[.any, .ptr 0 0 0, .any, .any, .any, .any, .any, .any, .any, .any, .any, .any, .d (.int .i64 k), .d (.int .i64 j), .any, .any, .any, .any, .any, .any, .any, .any, .any, .any, .any, .any, .any, .any, .any, .any, .any, .any, .any, .any, .any, .any, .any, .any, .any, .any, .any, .any, .any, .any, .any, .any, .any, .any, .any, .any, .any, .any, .any, .any, .any, .any, .any, .any, .any, .any, .any, .any, .any, .any, .any, .any, .any, .any, .any, .any, .any, .any, .any, .any, .any, .any, .any, .any, .any, .any, .any, .any, .any, .any, .any, .any, .any, .any, .any, .any, .any, .any, .any, .any, .any, .any, .any, .any, .any, .any, .any, .any, .any, .any, .any, .any, .any, .any, .any, .any, .any, .any, .any, .any, .any, .any, .any, .any, .any, .any, .any, .any, .any, .any, .any, .any, .any, .any, .any, .any, .any, .any, .any, .any, .any, .any, .any, .any, .any, .any, .any, .any, .any, .any, .any, .any, .any, .any, .any, .any, .any, .any, .any, .any, .any, .any, .any, .any, .any, .any, .any, .any, .any, .any, .any, .any, .any, .any, .any, .any, .any], [bLocks l]⟩) (fun j => j ≤ l.held.length ∧ l.held.any (rWeak x) = (l.held.drop j).any (rWeak x)) (fun j => l.held.length - j) 0 [0] ⟨Nat.zero_le _, rfl⟩ ?_ ?_
              · refine And.intro rfl (And.intro ?_ ?_)
                all_goals (repeat' (first | exact True.intro | exact rfl | refine And.intro ?_ ?_))
              · rintro j ⟨hj, hjdx⟩
                conv => whnf
                refine And.intro (fun h_ => ?_) (fun h_ => ?_)
                · conv => whnf
                  have hj' : j < l.held.length := by simpa using h_
                  obtain ⟨y, hy⟩ : ∃ y, l.held[j]? = some y := ⟨_, List.getElem?_eq_getElem (by omega)⟩
                  have hsj := any_step (p := rWeak x) hy
                  refine ⟨by omega, cLock x, by simp [hx], rfl, ?_⟩
                  conv => whnf
                  refine ⟨by omega, cLock y, by simp [hy], rfl, ?_⟩
                  conv => whnf
                  have out : rWeak x y = true → DV.bool false = .bool (rCheck l) := fun h => by rw [k3, hidx, hst, hjdx, hsj, h]; rfl
                  have next : rWeak x y = false → l.held.any (rWeak x) = (l.held.drop (j + 1)).any (rWeak x) := fun h => by rw [hjdx, hsj, h]; rfl
                  clear hsj hjdx hst hidx k3
                  repeat' (first | (refine And.intro (fun _ => ?_) (fun _ => ?_) <;> (conv => whnf)) | (refine ⟨_, _, c55 _ _ _, True.intro, ?_⟩; conv => whnf))
                  all_goals (first
                    | (refine ⟨[], rfl, out ?_, True.intro⟩; clear out next; unfold rWeak; simp_all; done)
                    | (intro z hz
                       conv => whnf
                       rw [wrap_small (by omega) (by omega)] at hz
                       subst hz
                       refine ⟨j + 1, [0], ⟨by omega, next ?_⟩, by omega, And.intro rfl (And.intro ?_ ?_)⟩
                       · clear out next; unfold rWeak; simp_all; done
                       all_goals (repeat' (first | exact True.intro | exact rfl | refine And.intro ?_ ?_))))
                · conv => whnf
                  have hj' : j = l.held.length := by simp at h_; omega
                  have hany : l.held.any (rWeak x) = false := by rw [hjdx, hj', List.drop_length]; rfl
                  intro z hz
                  conv => whnf
                  rw [wrap_small (by omega) (by omega)] at hz
                  subst hz
                  refine ⟨k + 1, [0], ⟨by omega, ?_⟩, by omega, And.intro rfl (And.intro ?_ ?_)⟩
                  · rw [hidx, hst, hany]; rfl
                  all_goals (repeat' (first | exact True.intro | exact rfl | refine And.intro ?_ ?_))
            · conv => whnf
              have hk' : k = l.queue.length := by simp at h_; omega
              refine ⟨[], rfl, ?_, True.intro⟩
              show DV.bool true = .bool _
              rw [k3, hidx, hk', List.drop_length]; rfl
theorem rCheck_own {l : Locks} (h : rCheck l = true) : (∀ y ∈ l.held, ownOk y) ∧ ∀ y ∈ l.queue, ownOk y := by
  unfold rCheck at h
  simp only [Bool.and_eq_true] at h
  exact ⟨fun y hy => may_own (heldF_may _ _ h.2.1 y hy), fun y hy => may_own (queF_may _ _ h.2.2.1 y hy)⟩
def rWaits (l : Locks) (o : Int) : Bool := rCheck l && decide (place l.queue o ≥ 0)
theorem c24 (l : Locks) (o : Int) (h1 : l.held.length < 100000) (h2 : l.queue.length < 100000) (H : List (List Blk)) : CallEq X H 70 [pLocks l, .d (.int .i64 o)] (.d (.bool (rWaits l o))) [] := by
  unfold rWaits
  refine callEq_of_body X_ok rfl Tryz.func70 rfl ?_
  conv => whnf
  repeat' (first
    | (refine And.intro (fun h_ => ?_) (fun h_ => ?_) <;> (conv => whnf))
    | (refine ⟨_, _, c20 l h1 h2 _, (by first | exact True.intro | exact And.intro rfl flat_nil), ?_⟩; conv => whnf)
    | (refine ⟨_, _, c46 l o (by omega) _, (by first | exact True.intro | exact And.intro rfl flat_nil), ?_⟩; conv => whnf)
    | (intro z_ hz_; conv => whnf)
    | (refine ⟨[], rfl, ?_, True.intro⟩; (conv => whnf); (first | done | (simp_all only [refP, Bool.not_true, Bool.not_false, Bool.true_and, Bool.false_and, Bool.and_true, Bool.and_false, Bool.true_or, Bool.false_or, Bool.or_true, Bool.or_false, Bool.not_not, Bool.not_eq_true', Bool.not_eq_false', if_true, if_false, Bool.false_eq_true, Bool.true_eq_false, List.length_map]; done)))
    | fail)
def rBlockers (l : Locks) (o : Int) : List Int := if rWaits l o then (match l.queue[(place l.queue o).toNat]? with | some y => rAhead l y (place l.queue o).toNat | none => []) else []
theorem c18 (l : Locks) (o : Int) (h1 : l.held.length < 100000) (h2 : l.queue.length < 100000) (H : List (List Blk)) : CallEq X H 71 [pLocks l, .d (.int .i64 o)] (.d (encI (rBlockers l o))) [] := by
  refine callEq_of_body X_ok rfl Tryz.func71 rfl ?_
  conv => whnf
  refine ⟨_, _, c20 l h1 h2 _, True.intro, ?_⟩
  conv => whnf
  have no : rWaits l o = false → DV.sl [] = encI (rBlockers l o) := fun h => by unfold rBlockers; rw [h]; rfl
  refine And.intro (fun q1 => ?_) (fun q1 => ?_) <;> (conv => whnf)
  rotate_left
  · refine ⟨[], rfl, no ?_, True.intro⟩
    have q1 : rCheck l = false := by simpa using q1
    unfold rWaits; rw [q1]; rfl
  · have q1 : rCheck l = true := by simpa using q1
    refine ⟨_, _, c46 l o (by omega) _, True.intro, ?_⟩
    conv => whnf
    refine And.intro (fun q2 => ?_) (fun q2 => ?_) <;> (conv => whnf)
    · refine ⟨[], rfl, no ?_, True.intro⟩
      unfold rWaits; rw [q1]; simp at q2 ⊢; omega
    · have hp : place l.queue o ≥ 0 := by simp at q2; omega
      have hw : rWaits l o = true := by unfold rWaits; rw [q1]; simp; omega
      obtain ⟨y, hy, ho⟩ := place_at hp
      obtain ⟨o1, o2⟩ := rCheck_own q1
      refine ⟨_, _, c46 l o (by omega) _, True.intro, ?_⟩
      conv => whnf
      have hc := fun H => c48 l y (place l.queue o).toNat hy h1 h2 o1 o2 H
      rw [show (((place l.queue o).toNat : Nat) : Int) = place l.queue o by omega] at hc
      refine ⟨_, _, hc _, True.intro, ?_⟩
      conv => whnf
      refine ⟨_, _, c47 _ _ _ _ _, True.intro, ?_⟩
      conv => whnf
      refine ⟨[], rfl, ?_, True.intro⟩
      show encI _ = encI (rBlockers l o)
      unfold rBlockers; rw [hw, if_pos rfl, hy]; rfl
end Go.Proofs.Ve

/- Locks in memory of their own: lists, Same. -/
set_option maxRecDepth 100000
set_option linter.all false
namespace Go.Proofs.Ve
open Go
/-- spans of few bytes -/
def smallX (x : Lock) : Prop := x.span.lo.length ≤ 1000000 ∧ x.span.hi.length ≤ 1000000
def smallL (l : List Lock) : Prop := ∀ x ∈ l, smallX x
theorem c107 (x y : Lock) (T1 : List Blk) (rest : List Blk) (H : List (List Blk)) : CallEq X (T1 :: (bLock x :: rest) :: H) 114 [pLock y, .ptr 2 0 0] (.d (.bool (x.whole && y.whole && y.owner == x.owner && y.span.t == x.span.t))) [] := by
  refine callEq_of_body X_ok rfl Tryz.func114 rfl ?_
  conv => whnf
  repeat' (first
    | (refine And.intro (fun h_ => ?_) (fun h_ => ?_) <;> (conv => whnf))
    | (intro z_ hz_; conv => whnf)
    | (refine ⟨[], rfl, ?_, True.intro⟩; (conv => whnf); (first | done | (simp_all only [refP, Bool.not_true, Bool.not_false, Bool.true_and, Bool.false_and, Bool.and_true, Bool.and_false, Bool.true_or, Bool.false_or, Bool.or_true, Bool.or_false, Bool.not_not, Bool.not_eq_true', Bool.not_eq_false', if_true, if_false, Bool.false_eq_true, Bool.true_eq_false, List.length_map]; done)))
    | fail)
def lWholeP (x y : Lock) : Bool := x.whole && y.whole && y.owner == x.owner && y.span.t == x.span.t
theorem i107 (p : Lock → Bool) (l0 i0 : Nat) (xs : List Lock) (H : List (List Blk)) (hlen : xs.length < 1000000) (hp : ∀ x, x ∈ xs → ∀ T, CallEq X (T :: H) 114 [pLock x, .ptr (l0 + 2) i0 0] (.d (.bool (p x))) []) :
    CallEq X H 78 [.d (.sl (xs.map cLock)), .func (.func 114) [] [.ptr (l0 + 1) i0 0]] (.d (.int .i64 (idxOf p xs 0))) [] := by
  refine callEq_of_body X_ok rfl Tryz.func78 rfl ?_
  conv => whnf
  refine loopV_of (fun k : Nat => ⟨[.d (.sl (xs.map cLock)), .func (.func 114) [] [.ptr (l0 + 1) i0 0], .any, .any, .any, .any, .any, .d (.int .i64 (xs.map cLock).length), .d (.int .i64 k), .any, .any, .any, .any, .any, .any, .any, .any, .any, .any], []⟩) (fun k => k ≤ xs.length ∧ idxOf p xs 0 = idxOf p (xs.drop k) k) (fun k => xs.length - k) 0 [] ⟨Nat.zero_le _, by simp⟩ ?_ ?_
  · refine And.intro rfl (And.intro ?_ True.intro)
    repeat' (first | exact True.intro | exact rfl | refine And.intro ?_ ?_)
  · rintro k ⟨hk, hidx⟩
    conv => whnf
    refine And.intro (fun h_ => ?_) (fun h_ => ?_)
    · conv => whnf
      have hk' : k < xs.length := by simpa using h_
      obtain ⟨x, hx⟩ : ∃ x, xs[k]? = some x := ⟨_, List.getElem?_eq_getElem hk'⟩
      have hst := idxOf_step (p := p) hx
      refine ⟨by omega, cLock x, by simp [hx], rfl, ?_⟩
      conv => whnf
      refine ⟨_, _, hp x (List.mem_of_getElem? hx) _, True.intro, ?_⟩
      conv => whnf
      refine And.intro (fun h1 => ?_) (fun h1 => ?_)
      · conv => whnf
        refine ⟨[], rfl, ?_, True.intro⟩
        show DV.int .i64 (k : Int) = .int .i64 (idxOf p xs 0)
        rw [hidx, hst, h1]; rfl
      · conv => whnf
        intro z hz
        conv => whnf
        rw [wrap_small (by omega) (by omega)] at hz
        subst hz
        refine ⟨k + 1, [], ⟨by omega, ?_⟩, by omega, And.intro rfl (And.intro ?_ True.intro)⟩
        · rw [hidx, hst, h1]; rfl
        · repeat' (first | exact True.intro | exact rfl | refine And.intro ?_ ?_)
    · conv => whnf
      have hk' : k = xs.length := by simp at h_; omega
      refine ⟨[], rfl, ?_, True.intro⟩
      show DV.int .i64 (-1) = .int .i64 (idxOf p xs 0)
      rw [hidx, hk', List.drop_length]; rfl
def lWhole (l : List Lock) (x : Lock) : Int := idxOf (lWholeP x) l 0
theorem c67 (l : List Lock) (x : Lock) (hl : l.length < 1000000) (H : List (List Blk)) : CallEq X H 87 [.d (encLocks l), pLock x] (.d (.int .i64 (lWhole l x))) [] := by
  unfold lWhole
  refine callEq_of_body X_ok rfl Tryz.func87 rfl ?_
  conv => whnf
  repeat' (first
    | (refine And.intro (fun h_ => ?_) (fun h_ => ?_) <;> (conv => whnf))
    | (refine ⟨_, _, i107 (lWholeP x) 0 0 l _ hl (fun y _ T => c107 x y _ _ _), (by first | exact True.intro | exact And.intro rfl flat_nil), ?_⟩; conv => whnf)
    | (intro z_ hz_; conv => whnf)
    | (refine ⟨[], rfl, ?_, True.intro⟩; (conv => whnf); (first | done | (simp_all only [refP, Bool.not_true, Bool.not_false, Bool.true_and, Bool.false_and, Bool.and_true, Bool.and_false, Bool.true_or, Bool.false_or, Bool.or_true, Bool.or_false, Bool.not_not, Bool.not_eq_true', Bool.not_eq_false', if_true, if_false, Bool.false_eq_true, Bool.true_eq_false, List.length_map]; done)))
    | fail)
theorem c69 (x : Lock) (H : List (List Blk)) : CallEq X H 89 [pLock x] (.d (.bool false)) [] := by
  refine callEq_of_body X_ok rfl Tryz.func89 rfl ?_
  conv => whnf
  repeat' (first
    | (refine And.intro (fun h_ => ?_) (fun h_ => ?_) <;> (conv => whnf))
    | (intro z_ hz_; conv => whnf)
    | (refine ⟨[], rfl, ?_, True.intro⟩; (conv => whnf); (first | done | (simp_all only [refP, Bool.not_true, Bool.not_false, Bool.true_and, Bool.false_and, Bool.and_true, Bool.and_false, Bool.true_or, Bool.false_or, Bool.or_true, Bool.or_false, Bool.not_not, Bool.not_eq_true', Bool.not_eq_false', if_true, if_false, Bool.false_eq_true, Bool.true_eq_false, List.length_map]; done)))
    | fail)
theorem c102 (x : Lock) (H : List (List Blk)) : CallEq X H 96 [pLock x] (.d (.bool false)) [] := by
  refine callEq_of_body X_ok rfl Tryz.func96 rfl ?_
  conv => whnf
  repeat' (first
    | (refine And.intro (fun h_ => ?_) (fun h_ => ?_) <;> (conv => whnf))
    | (intro z_ hz_; conv => whnf)
    | (refine ⟨[], rfl, ?_, True.intro⟩; (conv => whnf); (first | done | (simp_all only [refP, Bool.not_true, Bool.not_false, Bool.true_and, Bool.false_and, Bool.and_true, Bool.and_false, Bool.true_or, Bool.false_or, Bool.or_true, Bool.or_false, Bool.not_not, Bool.not_eq_true', Bool.not_eq_false', if_true, if_false, Bool.false_eq_true, Bool.true_eq_false, List.length_map]; done)))
    | fail)
theorem c61 (x : Lock) (o : Int) (T1 : List Blk) (B0 : Blk) (rest : List Blk) (H : List (List Blk)) : CallEq X (T1 :: (B0 :: .box [.d (.int .i64 o)] :: rest) :: H) 64 [pLock x, .ptr 2 1 0] (.d (.bool (x.owner == o))) [] := by
  refine callEq_of_body X_ok rfl Tryz.func64 rfl ?_
  conv => whnf
  repeat' (first
    | (refine And.intro (fun h_ => ?_) (fun h_ => ?_) <;> (conv => whnf))
    | (intro z_ hz_; conv => whnf)
    | (refine ⟨[], rfl, ?_, True.intro⟩; (conv => whnf); (first | done | (simp_all only [refP, Bool.not_true, Bool.not_false, Bool.true_and, Bool.false_and, Bool.and_true, Bool.and_false, Bool.true_or, Bool.false_or, Bool.or_true, Bool.or_false, Bool.not_not, Bool.not_eq_true', Bool.not_eq_false', if_true, if_false, Bool.false_eq_true, Bool.true_eq_false, List.length_map]; done)))
    | fail)
theorem filter_snoc {α : Type} {p : α → Bool} {l : List α} {k : Nat} {x : α} (h : l[k]? = some x) : (l.take (k + 1)).filter p = (l.take k).filter p ++ bif p x then [x] else [] := by
  rw [take_snoc' h, List.filter_append]
  cases hp : p x <;> simp [hp]
theorem filter_le {α : Type} {p : α → Bool} {l : List α} (k : Nat) : ((l.take k).filter p).length ≤ l.length :=
  Nat.le_trans (List.length_filter_le _ _) (by rw [List.length_take]; omega)
theorem l69 (p : Lock → Bool)  (xs : List Lock) (H : List (List Blk)) (hlen : xs.length < 1000000) (hsm : smallL xs) (hp : ∀ x, x ∈ xs → ∀ T, CallEq X (T :: H) 89 [pLock x] (.d (.bool (p x))) []) :
    CallEq X H 65 [.d (encLocks xs), .func (.func 89) [] []] (.row 0 0 (xs.filter fun x => !p x).length) [⟨53, 7, (xs.filter fun x => !p x).map cLock⟩] := by
  refine callEq_of_body X_ok rfl Tryz.func65 rfl ?_
  conv => whnf
  refine loopV_of (fun k : Nat => ⟨[.any, .func (.func 89) [] [], .any, .any, .row 0 0 ((xs.take k).filter fun x => !p x).length, .any, .any, .d (encLocks xs), .d (.int .i64 (xs.map cLock).length), .d (.int .i64 k), .any, .any, .any, .any, .any, .any, .any, .any, .any, .any, .any, .any, .any, .any, .any, .any, .any, .any, .any, .any, .any, .any, .any, .any, .any], [.row 53 7 (((xs.take k).filter fun x => !p x).map cLock)]⟩)
    (fun k => k ≤ xs.length) (fun k => xs.length - k) 0 [0] (Nat.zero_le _) ?_ ?_
  · refine And.intro rfl (And.intro ?_ ?_)
    all_goals (repeat' (first | exact True.intro | exact rfl | refine And.intro ?_ ?_))
  · intro k hk
    conv => whnf
    refine And.intro (fun h_ => ?_) (fun h_ => ?_)
    · conv => whnf
      have hk' : k < xs.length := by simpa using h_
      obtain ⟨x, hx⟩ : ∃ x, xs[k]? = some x := ⟨_, List.getElem?_eq_getElem hk'⟩
      have hs := filter_snoc (p := fun x => !p x) hx
      have hle := filter_le (p := fun x => !p x) (l := xs) k
      obtain ⟨m1, m2⟩ := hsm x (List.mem_of_getElem? hx)
      refine ⟨by omega, cLock x, by simp [hx], rfl, ?_⟩
      conv => whnf
      refine ⟨_, _, hp x (List.mem_of_getElem? hx) _, True.intro, ?_⟩
      conv => whnf
      refine And.intro (fun q1 => ?_) (fun q1 => ?_) <;> (conv => whnf)
      rotate_left
      · have q1 : p x = true := by simpa using q1
        rw [q1] at hs
        simp only [Bool.not_true, cond_false, List.append_nil] at hs
        intro z hz
        conv => whnf
        rw [wrap_small (by omega) (by omega)] at hz
        subst hz
        refine ⟨k + 1, [0], by omega, by omega, And.intro rfl (And.intro ?_ ?_)⟩
        all_goals (repeat' (first | exact True.intro | exact rfl | refine And.intro ?_ ?_))
        · show PV.row 0 0 _ = PV.row 0 0 _
          rw [hs]
        · rw [hs]
      · have q1 : p x = false := by simpa using q1
        rw [q1] at hs
        simp only [Bool.not_false, cond_true] at hs
        have hs' : ((xs.take (k + 1)).filter fun x => !p x).length = ((xs.take k).filter fun x => !p x).length + 1 := by rw [hs]; simp
        refine ⟨_, _, c103 x.span.lo (by omega) _, True.intro, ?_⟩
        conv => whnf
        refine ⟨_, _, c103 x.span.hi (by omega) _, True.intro, ?_⟩
        conv => whnf
        refine ⟨fun y hy => by simp at hy; subst hy; rfl, ?_⟩
        conv => whnf
        refine ⟨by rw [List.length_map], by (first | omega | (dsimp only; omega) | (simp; done) | (simp; omega)), ?_⟩
        conv => whnf
        intro z hz
        conv => whnf
        rw [wrap_small (by omega) (by omega)] at hz
        subst hz
        refine ⟨k + 1, [2], by omega, by omega, And.intro rfl (And.intro ?_ ?_)⟩
        all_goals (repeat' (first | exact True.intro | exact rfl | refine And.intro ?_ ?_))
        · show PV.row 0 2 _ = PV.row 0 2 _
          rw [hs']; rfl
        · rw [hs, List.map_append]; rfl
    · conv => whnf
      have hk' : k = xs.length := by simp at h_; omega
      subst hk'
      rw [List.take_length]
      exact ⟨[0], rfl, And.intro rfl rfl, And.intro (And.intro rfl (And.intro rfl rfl)) True.intro⟩
theorem l102 (p : Lock → Bool)  (xs : List Lock) (H : List (List Blk)) (hlen : xs.length < 1000000) (hsm : smallL xs) (hp : ∀ x, x ∈ xs → ∀ T, CallEq X (T :: H) 96 [pLock x] (.d (.bool (p x))) []) :
    CallEq X H 65 [.d (encLocks xs), .func (.func 96) [] []] (.row 0 0 (xs.filter fun x => !p x).length) [⟨53, 7, (xs.filter fun x => !p x).map cLock⟩] := by
  refine callEq_of_body X_ok rfl Tryz.func65 rfl ?_
  conv => whnf
  refine loopV_of (fun k : Nat => ⟨[.any, .func (.func 96) [] [], .any, .any, .row 0 0 ((xs.take k).filter fun x => !p x).length, .any, .any, .d (encLocks xs), .d (.int .i64 (xs.map cLock).length), .d (.int .i64 k), .any, .any, .any, .any, .any, .any, .any, .any, .any, .any, .any, .any, .any, .any, .any, .any, .any, .any, .any, .any, .any, .any, .any, .any, .any], [.row 53 7 (((xs.take k).filter fun x => !p x).map cLock)]⟩)
    (fun k => k ≤ xs.length) (fun k => xs.length - k) 0 [0] (Nat.zero_le _) ?_ ?_
  · refine And.intro rfl (And.intro ?_ ?_)
    all_goals (repeat' (first | exact True.intro | exact rfl | refine And.intro ?_ ?_))
  · intro k hk
    conv => whnf
    refine And.intro (fun h_ => ?_) (fun h_ => ?_)
    · conv => whnf
      have hk' : k < xs.length := by simpa using h_
      obtain ⟨x, hx⟩ : ∃ x, xs[k]? = some x := ⟨_, List.getElem?_eq_getElem hk'⟩
      have hs := filter_snoc (p := fun x => !p x) hx
      have hle := filter_le (p := fun x => !p x) (l := xs) k
      obtain ⟨m1, m2⟩ := hsm x (List.mem_of_getElem? hx)
      refine ⟨by omega, cLock x, by simp [hx], rfl, ?_⟩
      conv => whnf
      refine ⟨_, _, hp x (List.mem_of_getElem? hx) _, True.intro, ?_⟩
      conv => whnf
      refine And.intro (fun q1 => ?_) (fun q1 => ?_) <;> (conv => whnf)
      rotate_left
      · have q1 : p x = true := by simpa using q1
        rw [q1] at hs
        simp only [Bool.not_true, cond_false, List.append_nil] at hs
        intro z hz
        conv => whnf
        rw [wrap_small (by omega) (by omega)] at hz
        subst hz
        refine ⟨k + 1, [0], by omega, by omega, And.intro rfl (And.intro ?_ ?_)⟩
        all_goals (repeat' (first | exact True.intro | exact rfl | refine And.intro ?_ ?_))
        · show PV.row 0 0 _ = PV.row 0 0 _
          rw [hs]
        · rw [hs]
      · have q1 : p x = false := by simpa using q1
        rw [q1] at hs
        simp only [Bool.not_false, cond_true] at hs
        have hs' : ((xs.take (k + 1)).filter fun x => !p x).length = ((xs.take k).filter fun x => !p x).length + 1 := by rw [hs]; simp
        refine ⟨_, _, c103 x.span.lo (by omega) _, True.intro, ?_⟩
        conv => whnf
        refine ⟨_, _, c103 x.span.hi (by omega) _, True.intro, ?_⟩
        conv => whnf
        refine ⟨fun y hy => by simp at hy; subst hy; rfl, ?_⟩
        conv => whnf
        refine ⟨by rw [List.length_map], by (first | omega | (dsimp only; omega) | (simp; done) | (simp; omega)), ?_⟩
        conv => whnf
        intro z hz
        conv => whnf
        rw [wrap_small (by omega) (by omega)] at hz
        subst hz
        refine ⟨k + 1, [2], by omega, by omega, And.intro rfl (And.intro ?_ ?_)⟩
        all_goals (repeat' (first | exact True.intro | exact rfl | refine And.intro ?_ ?_))
        · show PV.row 0 2 _ = PV.row 0 2 _
          rw [hs']; rfl
        · rw [hs, List.map_append]; rfl
    · conv => whnf
      have hk' : k = xs.length := by simp at h_; omega
      subst hk'
      rw [List.take_length]
      exact ⟨[0], rfl, And.intro rfl rfl, And.intro (And.intro rfl (And.intro rfl rfl)) True.intro⟩
theorem l61 (p : Lock → Bool) (l0 i0 : Nat) (xs : List Lock) (H : List (List Blk)) (hlen : xs.length < 1000000) (hsm : smallL xs) (hp : ∀ x, x ∈ xs → ∀ T, CallEq X (T :: H) 64 [pLock x, .ptr (l0 + 2) i0 0] (.d (.bool (p x))) []) :
    CallEq X H 65 [.d (encLocks xs), .func (.func 64) [] [.ptr (l0 + 1) i0 0]] (.row 0 0 (xs.filter fun x => !p x).length) [⟨53, 7, (xs.filter fun x => !p x).map cLock⟩] := by
  refine callEq_of_body X_ok rfl Tryz.func65 rfl ?_
  conv => whnf
  refine loopV_of (fun k : Nat => ⟨[.any, .func (.func 64) [] [.ptr (l0 + 1) i0 0], .any, .any, .row 0 0 ((xs.take k).filter fun x => !p x).length, .any, .any, .d (encLocks xs), .d (.int .i64 (xs.map cLock).length), .d (.int .i64 k), .any, .any, .any, .any, .any, .any, .any, .any, .any, .any, .any, .any, .any, .any, .any, .any, .any, .any, .any, .any, .any, .any, .any, .any, .any], [.row 53 7 (((xs.take k).filter fun x => !p x).map cLock)]⟩)
    (fun k => k ≤ xs.length) (fun k => xs.length - k) 0 [0] (Nat.zero_le _) ?_ ?_
  · refine And.intro rfl (And.intro ?_ ?_)
    all_goals (repeat' (first | exact True.intro | exact rfl | refine And.intro ?_ ?_))
  · intro k hk
    conv => whnf
    refine And.intro (fun h_ => ?_) (fun h_ => ?_)
    · conv => whnf
      have hk' : k < xs.length := by simpa using h_
      obtain ⟨x, hx⟩ : ∃ x, xs[k]? = some x := ⟨_, List.getElem?_eq_getElem hk'⟩
      have hs := filter_snoc (p := fun x => !p x) hx
      have hle := filter_le (p := fun x => !p x) (l := xs) k
      obtain ⟨m1, m2⟩ := hsm x (List.mem_of_getElem? hx)
      refine ⟨by omega, cLock x, by simp [hx], rfl, ?_⟩
      conv => whnf
      refine ⟨_, _, hp x (List.mem_of_getElem? hx) _, True.intro, ?_⟩
      conv => whnf
      refine And.intro (fun q1 => ?_) (fun q1 => ?_) <;> (conv => whnf)
      rotate_left
      · have q1 : p x = true := by simpa using q1
        rw [q1] at hs
        simp only [Bool.not_true, cond_false, List.append_nil] at hs
        intro z hz
        conv => whnf
        rw [wrap_small (by omega) (by omega)] at hz
        subst hz
        refine ⟨k + 1, [0], by omega, by omega, And.intro rfl (And.intro ?_ ?_)⟩
        all_goals (repeat' (first | exact True.intro | exact rfl | refine And.intro ?_ ?_))
        · show PV.row 0 0 _ = PV.row 0 0 _
          rw [hs]
        · rw [hs]
      · have q1 : p x = false := by simpa using q1
        rw [q1] at hs
        simp only [Bool.not_false, cond_true] at hs
        have hs' : ((xs.take (k + 1)).filter fun x => !p x).length = ((xs.take k).filter fun x => !p x).length + 1 := by rw [hs]; simp
        refine ⟨_, _, c103 x.span.lo (by omega) _, True.intro, ?_⟩
        conv => whnf
        refine ⟨_, _, c103 x.span.hi (by omega) _, True.intro, ?_⟩
        conv => whnf
        refine ⟨fun y hy => by simp at hy; subst hy; rfl, ?_⟩
        conv => whnf
        refine ⟨by rw [List.length_map], by (first | omega | (dsimp only; omega) | (simp; done) | (simp; omega)), ?_⟩
        conv => whnf
        intro z hz
        conv => whnf
        rw [wrap_small (by omega) (by omega)] at hz
        subst hz
        refine ⟨k + 1, [2], by omega, by omega, And.intro rfl (And.intro ?_ ?_)⟩
        all_goals (repeat' (first | exact True.intro | exact rfl | refine And.intro ?_ ?_))
        · show PV.row 0 2 _ = PV.row 0 2 _
          rw [hs']; rfl
        · rw [hs, List.map_append]; rfl
    · conv => whnf
      have hk' : k = xs.length := by simp at h_; omega
      subst hk'
      rw [List.take_length]
      exact ⟨[0], rfl, And.intro rfl rfl, And.intro (And.intro rfl (And.intro rfl rfl)) True.intro⟩
end Go.Proofs.Ve

/- Locks of one's own; one more held; the least mode of two. -/
set_option maxRecDepth 100000
set_option linter.all false
namespace Go.Proofs.Ve
open Go
theorem filter_all {α : Type} (l : List α) : (l.filter fun _ => !false) = l := by simp
def rLocks (l : List Lock) : RowB := ⟨53, 7, l.map cLock⟩
theorem l102' (xs : List Lock) (H : List (List Blk)) (hlen : xs.length < 1000000) (hsm : smallL xs) : CallEq X H 65 [.d (encLocks xs), .func (.func 96) [] []] (.row 0 0 xs.length) [rLocks xs] := by
  have h := l102 (fun _ => false) xs H hlen hsm (fun x _ T => c102 x _)
  rw [filter_all] at h; exact h
theorem l69' (xs : List Lock) (H : List (List Blk)) (hlen : xs.length < 1000000) (hsm : smallL xs) : CallEq X H 65 [.d (encLocks xs), .func (.func 89) [] []] (.row 0 0 xs.length) [rLocks xs] := by
  have h := l69 (fun _ => false) xs H hlen hsm (fun x _ T => c69 x _)
  rw [filter_all] at h; exact h
def rowsL (l : Locks) : PV := .agg [.row 0 0 l.held.length, .row 0 1 l.queue.length]
def smallLs (l : Locks) : Prop := l.held.length < 100000 ∧ l.queue.length < 100000 ∧ smallL l.held ∧ smallL l.queue
theorem c60 (l : Locks) (hs : smallLs l) (H : List (List Blk)) : CallEq X H 63 [pLocks l] (rowsL l) [rLocks l.held, rLocks l.queue] := by
  obtain ⟨h1, h2, h3, h4⟩ := hs
  refine callEq_of_body X_ok rfl Tryz.func63 rfl ?_
  conv => whnf
  refine ⟨_, _, l102' l.held _ (by omega) h3, True.intro, ?_⟩
  conv => whnf
  refine ⟨_, _, l102' l.queue _ (by omega) h4, True.intro, ?_⟩
  conv => whnf
  exact ⟨[2, 3], rfl, (by (repeat' (first | exact True.intro | exact rfl | refine And.intro ?_ ?_))), And.intro (And.intro rfl (And.intro rfl rfl)) (And.intro (And.intro rfl (And.intro rfl rfl)) True.intro)⟩
theorem fzL (l : Locks) : fz [rLocks l.held, rLocks l.queue] 2 (rowsL l) = pLocks l := by
  change PV.agg [.d (.sl (List.take l.held.length (l.held.map cLock))), .d (.sl (List.take l.queue.length (l.queue.map cLock)))] = _
  rw [List.take_of_length_le (by simp), List.take_of_length_le (by simp)]; rfl
theorem c60f (l : Locks) (hs : smallLs l) (H : List (List Blk)) : CallEq X H 63 [pLocks l] (pLocks l) [] := (c60 l hs H).freeze 2 (fzL l)
/-! ### one more held -/
def holdL (l : List Lock) (x : Lock) : List Lock := if lWhole l x ≥ 0 then l.set (lWhole l x).toNat x else l ++ [x]
theorem idxOf_lt {α : Type} (p : α → Bool) : ∀ (l : List α) (k : Int), 0 ≤ k → idxOf p l k ≥ 0 → k ≤ idxOf p l k ∧ ∃ y, l[(idxOf p l k - k).toNat]? = some y ∧ p y = true
  | [], k, hk, h => by simp [idxOf] at h
  | x :: l, k, hk, h => by
    cases hx : p x with
    | true => rw [idxOf, hx]; exact ⟨by simp, x, by simp, hx⟩
    | false =>
      rw [idxOf, hx] at h ⊢
      obtain ⟨h1, y, h2, h3⟩ := idxOf_lt p l (k + 1) (by omega) h
      refine ⟨by simp; omega, y, ?_, h3⟩
      simp only [cond_false]
      rw [show (idxOf p l (k + 1) - k).toNat = (idxOf p l (k + 1) - (k + 1)).toNat + 1 by omega]
      simpa using h2
theorem whole_at {l : List Lock} {x : Lock} (h : lWhole l x ≥ 0) : ∃ y, l[(lWhole l x).toNat]? = some y := by
  obtain ⟨_, y, h1, _⟩ := idxOf_lt (lWholeP x) l 0 (by omega) h
  exact ⟨y, by simpa [lWhole] using h1⟩
theorem c63 (l : List Lock) (x : Lock) (hl : l.length < 1000000) (H : List (List Blk)) : CallEqG X H 67 [rLocks l] [.row 0 0 l.length, pLock x] [none] (.row 0 0 (holdL l x).length) [rLocks (holdL l x)] := by
  refine callEqG_of_body (G := [rLocks l]) X_ok rfl Tryz.func67 rfl ?_
  conv => whnf
  have hc := fun H => c67 l x hl H
  rw [show encLocks l = .sl (List.take l.length (l.map cLock)) by rw [List.take_of_length_le (by simp)]; rfl] at hc
  refine ⟨_, _, hc _, And.intro rfl flat_nil, ?_⟩
  conv => whnf
  refine And.intro (fun q1 => ?_) (fun q1 => ?_) <;> (conv => whnf)
  · have q1 : lWhole l x ≥ 0 := by simpa using q1
    have hh : holdL l x = l.set (lWhole l x).toNat x := by unfold holdL; rw [if_pos q1]
    obtain ⟨y, hy⟩ := whole_at q1
    have hlt := (List.getElem?_eq_some_iff.1 hy).1
    refine ⟨q1, by omega, ?_⟩
    conv => whnf
    refine ⟨cLock y, by show (l.map cLock)[_]? = _; rw [List.getElem?_map, hy]; rfl, ?_⟩
    conv => whnf
    rw [hh]
    refine ⟨[0], rfl, And.intro rfl ?_, And.intro (And.intro rfl (And.intro rfl ?_)) True.intro⟩
    · show PV.row 0 0 _ = PV.row 0 0 _
      rw [List.length_set]
    · show _ = (rLocks (l.set _ x)).xs
      unfold rLocks; dsimp only; rw [List.map_set]; rfl
  · have q1 : ¬ lWhole l x ≥ 0 := by simpa using q1
    have hh : holdL l x = l ++ [x] := by unfold holdL; rw [if_neg q1]
    refine ⟨fun y hy => by simp at hy; subst hy; rfl, ?_⟩
    conv => whnf
    refine ⟨(List.length_map _).symm, by (first | omega | (dsimp only; omega) | (simp; done) | (simp; omega)), ?_⟩
    conv => whnf
    rw [hh]
    refine ⟨[2], rfl, And.intro rfl ?_, And.intro (And.intro rfl (And.intro rfl ?_)) True.intro⟩
    · show PV.row 0 2 _ = PV.row 0 2 _
      simp
    · show _ = (rLocks (l ++ [x])).xs
      unfold rLocks; dsimp only; rw [List.map_append]; rfl
/-! ### the least mode of two -/
def mJoinF (a b : Int) : List Int → Int
  | [] => 0
  | m :: ms => bif mCovers m a && mCovers m b then m else mJoinF a b ms
def mJoin (a b : Int) : Int := mJoinF a b [1, 2, 3, 4, 5]
theorem c68 (a b : Int) (H : List (List Blk)) : CallEq X H 88 [.d (.int .i64 a), .d (.int .i64 b)] (.d (.int .i64 (mJoin a b))) [] := by
  refine callEq_of_body X_ok rfl Tryz.func88 rfl ?_
  conv => whnf
  refine loopV_of (fun k : Nat => ⟨[.d (.int .i64 a), .d (.int .i64 b), .any, .any, .any, .any, .any, .d (.int .i64 k), .any, .any, .any, .any, .any, .any, .any, .any, .any, .any, .any, .any, .any, .any], []⟩)
    (fun k => k ≤ 5 ∧ mJoin a b = mJoinF a b (([1, 2, 3, 4, 5] : List Int).drop k)) (fun k => 5 - k) 0 [] ⟨Nat.zero_le _, rfl⟩ ?_ ?_
  · refine And.intro rfl (And.intro ?_ ?_)
    all_goals (repeat' (first | exact True.intro | exact rfl | refine And.intro ?_ ?_))
  · rintro k ⟨hk, hidx⟩
    conv => whnf
    refine And.intro (fun h_ => ?_) (fun h_ => ?_)
    · conv => whnf
      have hk' : k < 5 := by simp at h_; omega
      have hst : mJoinF a b (([1, 2, 3, 4, 5] : List Int).drop k) = bif mCovers ((k : Int) + 1) a && mCovers ((k : Int) + 1) b then (k : Int) + 1 else mJoinF a b (([1, 2, 3, 4, 5] : List Int).drop (k + 1)) := by
        match k, hk' with
        | 0, _ | 1, _ | 2, _ | 3, _ | 4, _ => rfl
      intro z hz
      conv => whnf
      rw [wrap_small (by omega) (by omega)] at hz
      subst hz
      have next : (mCovers ((k : Int) + 1) a && mCovers ((k : Int) + 1) b) = false → mJoin a b = mJoinF a b (([1, 2, 3, 4, 5] : List Int).drop (k + 1)) := fun h => by rw [hidx, hst, h]; rfl
      refine ⟨_, _, c87 _ _ _, True.intro, ?_⟩
      conv => whnf
      refine And.intro (fun q1 => ?_) (fun q1 => ?_) <;> (conv => whnf)
      · refine ⟨_, _, c87 _ _ _, True.intro, ?_⟩
        conv => whnf
        refine And.intro (fun q2 => ?_) (fun q2 => ?_) <;> (conv => whnf)
        · refine ⟨[], rfl, ?_, True.intro⟩
          show DV.int .i64 _ = .int .i64 (mJoin a b)
          rw [hidx, hst, q1, q2]; rfl
        · intro z hz
          conv => whnf
          rw [wrap_small (by omega) (by omega)] at hz
          subst hz
          refine ⟨k + 1, [], ⟨by omega, next (by rw [q1, q2]; rfl)⟩, by omega, And.intro rfl (And.intro ?_ ?_)⟩
          all_goals (repeat' (first | exact True.intro | exact rfl | refine And.intro ?_ ?_))
      · intro z hz
        conv => whnf
        rw [wrap_small (by omega) (by omega)] at hz
        subst hz
        refine ⟨k + 1, [], ⟨by omega, next (by rw [q1]; rfl)⟩, by omega, And.intro rfl (And.intro ?_ ?_)⟩
        all_goals (repeat' (first | exact True.intro | exact rfl | refine And.intro ?_ ?_))
    · conv => whnf
      have hk' : k = 5 := by simp at h_; omega
      refine ⟨[], rfl, ?_, True.intro⟩
      show DV.int .i64 0 = .int .i64 (mJoin a b)
      rw [hidx, hk']; rfl
end Go.Proofs.Ve

/- Ask: locks with one more. -/
set_option maxRecDepth 100000
set_option linter.all false
namespace Go.Proofs.Ve
open Go
theorem c65 (x y : Lock) (T1 T2 : List Blk) (B0 : Blk) (rest : List Blk) (H : List (List Blk)) : CallEq X (T1 :: T2 :: (B0 :: bLock x :: rest) :: H) 85 [pLock y, .ptr 3 1 0] (.d (.bool (lServes y x))) [] := by
  refine callEq_of_body X_ok rfl Tryz.func85 rfl ?_
  conv => whnf
  repeat' (first
    | (refine And.intro (fun h_ => ?_) (fun h_ => ?_) <;> (conv => whnf))
    | (refine ⟨_, _, c66 y x _, (by first | exact True.intro | exact And.intro rfl flat_nil), ?_⟩; conv => whnf)
    | (intro z_ hz_; conv => whnf)
    | (refine ⟨[], rfl, ?_, True.intro⟩; (conv => whnf); (first | done | (simp_all only [refP, Bool.not_true, Bool.not_false, Bool.true_and, Bool.false_and, Bool.and_true, Bool.and_false, Bool.true_or, Bool.false_or, Bool.or_true, Bool.or_false, Bool.not_not, Bool.not_eq_true', Bool.not_eq_false', if_true, if_false, Bool.false_eq_true, Bool.true_eq_false, List.length_map]; done)))
    | fail)
theorem i65 (p : Lock → Bool) (l0 i0 : Nat) (xs : List Lock) (H : List (List Blk)) (hlen : xs.length < 1000000) (hp : ∀ x, x ∈ xs → ∀ T, CallEq X (T :: H) 85 [pLock x, .ptr (l0 + 2) i0 0] (.d (.bool (p x))) []) :
    CallEq X H 78 [.d (.sl (xs.map cLock)), .func (.func 85) [] [.ptr (l0 + 1) i0 0]] (.d (.int .i64 (idxOf p xs 0))) [] := by
  refine callEq_of_body X_ok rfl Tryz.func78 rfl ?_
  conv => whnf
  refine loopV_of (fun k : Nat => ⟨[.d (.sl (xs.map cLock)), .func (.func 85) [] [.ptr (l0 + 1) i0 0], .any, .any, .any, .any, .any, .d (.int .i64 (xs.map cLock).length), .d (.int .i64 k), .any, .any, .any, .any, .any, .any, .any, .any, .any, .any], []⟩) (fun k => k ≤ xs.length ∧ idxOf p xs 0 = idxOf p (xs.drop k) k) (fun k => xs.length - k) 0 [] ⟨Nat.zero_le _, by simp⟩ ?_ ?_
  · refine And.intro rfl (And.intro ?_ True.intro)
    repeat' (first | exact True.intro | exact rfl | refine And.intro ?_ ?_)
  · rintro k ⟨hk, hidx⟩
    conv => whnf
    refine And.intro (fun h_ => ?_) (fun h_ => ?_)
    · conv => whnf
      have hk' : k < xs.length := by simpa using h_
      obtain ⟨x, hx⟩ : ∃ x, xs[k]? = some x := ⟨_, List.getElem?_eq_getElem hk'⟩
      have hst := idxOf_step (p := p) hx
      refine ⟨by omega, cLock x, by simp [hx], rfl, ?_⟩
      conv => whnf
      refine ⟨_, _, hp x (List.mem_of_getElem? hx) _, True.intro, ?_⟩
      conv => whnf
      refine And.intro (fun h1 => ?_) (fun h1 => ?_)
      · conv => whnf
        refine ⟨[], rfl, ?_, True.intro⟩
        show DV.int .i64 (k : Int) = .int .i64 (idxOf p xs 0)
        rw [hidx, hst, h1]; rfl
      · conv => whnf
        intro z hz
        conv => whnf
        rw [wrap_small (by omega) (by omega)] at hz
        subst hz
        refine ⟨k + 1, [], ⟨by omega, ?_⟩, by omega, And.intro rfl (And.intro ?_ True.intro)⟩
        · rw [hidx, hst, h1]; rfl
        · repeat' (first | exact True.intro | exact rfl | refine And.intro ?_ ?_)
    · conv => whnf
      have hk' : k = xs.length := by simp at h_; omega
      refine ⟨[], rfl, ?_, True.intro⟩
      show DV.int .i64 (-1) = .int .i64 (idxOf p xs 0)
      rw [hidx, hk', List.drop_length]; rfl
theorem c51e (p : Lock → Bool) (l0 i0 : Nat) (xs : List Lock) (hl : xs.length < 1000000) (H : List (List Blk)) (hp : ∀ x, x ∈ xs → ∀ T T', CallEq X (T :: T' :: H) 85 [pLock x, .ptr (l0 + 3) i0 0] (.d (.bool (p x))) []) : CallEq X H 33 [.d (encLocks xs), .func (.func 85) [] [.ptr (l0 + 1) i0 0]] (.d (.bool (xs.any p))) [] := by
  rw [← idxOf_ge _ xs 0 (Int.le_refl _)]
  refine callEq_of_body X_ok rfl Tryz.func33 rfl ?_
  conv => whnf
  repeat' (first
    | (refine And.intro (fun h_ => ?_) (fun h_ => ?_) <;> (conv => whnf))
    | (refine ⟨_, _, i65 p _ _ xs _ hl (fun x hx T => hp x hx T _), (by first | exact True.intro | exact And.intro rfl flat_nil), ?_⟩; conv => whnf)
    | (intro z_ hz_; conv => whnf)
    | (refine ⟨[], rfl, ?_, True.intro⟩; (conv => whnf); (first | done | (simp_all only [refP, Bool.not_true, Bool.not_false, Bool.true_and, Bool.false_and, Bool.and_true, Bool.and_false, Bool.true_or, Bool.false_or, Bool.or_true, Bool.or_false, Bool.not_not, Bool.not_eq_true', Bool.not_eq_false', if_true, if_false, Bool.false_eq_true, Bool.true_eq_false, List.length_map]; done)))
    | fail)
def atMode (l : List Lock) (k : Nat) : Int := match l[k]? with | some y => y.mode | none => 0
def lJoined (l : Locks) (x : Lock) : Lock := if lWhole l.held x ≥ 0 then { x with mode := mJoin x.mode (atMode l.held (lWhole l.held x).toNat) } else x
def lAsk (l : Locks) (x : Lock) : Locks × Int :=
  if !lCheck l || (!lMay x || lWaits l x.owner) then (l, 1)
  else if l.held.any (fun h => lServes h x) then (l, 0)
  else if decide ((l.held.length : Int) + l.queue.length ≥ 40) then (l, 111)
  else if decide (((lAhead l (lJoined l x) l.queue.length).length : Int) > 0) then (⟨l.held, l.queue ++ [lJoined l x]⟩, 110)
  else (⟨holdL l.held (lJoined l x), l.queue⟩, 0)
def pAsk (r : Locks × Int) : PV := .tuple [rowsL r.1, .d (.int .i64 r.2)]
theorem c26r (l : Locks) (x : Lock) (hs : smallLs l) (hx : smallX x) (H : List (List Blk)) : CallEq X H 42 [pLocks l, pLock x] (pAsk (lAsk l x)) [rLocks (lAsk l x).1.held, rLocks (lAsk l x).1.queue] := by
  have hs0 := hs
  obtain ⟨h1, h2, h3, h4⟩ := hs
  refine callEq_of_body X_ok rfl Tryz.func42 rfl ?_
  conv => whnf
  refine ⟨_, _, c60 l hs0 _, True.intro, ?_⟩
  conv => whnf
  refine ⟨_, _, c19 l h1 h2 _, True.intro, ?_⟩
  conv => whnf
  have arg : (!lCheck l || (!lMay x || lWaits l x.owner)) = true → lAsk l x = (l, 1) := fun h => by unfold lAsk; rw [h]; rfl
  refine And.intro (fun q1 => ?_) (fun q1 => ?_) <;> (conv => whnf)
  rotate_left
  · have q1 : lCheck l = false := by simpa using q1
    rw [arg (by rw [q1]; rfl)]
    exact ⟨[3, 4], rfl, (by (repeat' (first | exact True.intro | exact rfl | refine And.intro ?_ ?_))), And.intro (And.intro rfl (And.intro rfl rfl)) (And.intro (And.intro rfl (And.intro rfl rfl)) True.intro)⟩
  have q1 : lCheck l = true := by simpa using q1
  refine ⟨_, _, c50 x _, True.intro, ?_⟩
  conv => whnf
  refine And.intro (fun q2 => ?_) (fun q2 => ?_) <;> (conv => whnf)
  rotate_left
  · have q2 : lMay x = false := by simpa using q2
    rw [arg (by rw [q2]; simp)]
    exact ⟨[3, 4], rfl, (by (repeat' (first | exact True.intro | exact rfl | refine And.intro ?_ ?_))), And.intro (And.intro rfl (And.intro rfl rfl)) (And.intro (And.intro rfl (And.intro rfl rfl)) True.intro)⟩
  have q2 : lMay x = true := by simpa using q2
  refine ⟨_, _, c23 l x.owner h1 h2 _, True.intro, ?_⟩
  conv => whnf
  refine And.intro (fun q3 => ?_) (fun q3 => ?_) <;> (conv => whnf)
  · have q3 : lWaits l x.owner = true := by simpa using q3
    rw [arg (by rw [q3]; simp)]
    exact ⟨[3, 4], rfl, (by (repeat' (first | exact True.intro | exact rfl | refine And.intro ?_ ?_))), And.intro (And.intro rfl (And.intro rfl rfl)) (And.intro (And.intro rfl (And.intro rfl rfl)) True.intro)⟩
  have q3 : lWaits l x.owner = false := by simpa using q3
  have k1 : lAsk l x = if l.held.any (fun h => lServes h x) then (l, 0)
      else if decide ((l.held.length : Int) + l.queue.length ≥ 40) then (l, 111)
      else if decide (((lAhead l (lJoined l x) l.queue.length).length : Int) > 0) then (⟨l.held, l.queue ++ [lJoined l x]⟩, 110)
      else (⟨holdL l.held (lJoined l x), l.queue⟩, 0) := by unfold lAsk; rw [q1, q2, q3]; rfl
  refine ⟨_, _, c51e (fun h => lServes h x) 0 1 l.held (by omega) _ (fun y _ T T' => c65 x y T T' _ _ _), True.intro, ?_⟩
  conv => whnf
  refine And.intro (fun q4 => ?_) (fun q4 => ?_) <;> (conv => whnf)
  · rw [k1, if_pos q4]
    exact ⟨[3, 4], rfl, (by (repeat' (first | exact True.intro | exact rfl | refine And.intro ?_ ?_))), And.intro (And.intro rfl (And.intro rfl rfl)) (And.intro (And.intro rfl (And.intro rfl rfl)) True.intro)⟩
  rw [if_neg (by simpa using q4)] at k1
  refine ⟨_, _, c67 l.held x (by omega) _, True.intro, ?_⟩
  conv => whnf
  -- behind the join
  refine And.intro (fun q5 => ?_) (fun q5 => ?_) <;> (conv => whnf)
  · have q5 : lWhole l.held x ≥ 0 := by simpa using q5
    obtain ⟨y, hy⟩ := whole_at q5
    refine ⟨q5, cLock y, by rw [List.getElem?_map, hy]; rfl, rfl, ?_⟩
    conv => whnf
    refine ⟨_, _, c68 _ _ _, True.intro, ?_⟩
    conv => whnf
    have ej : lJoined l x = (⟨x.owner, x.whole, x.span, mJoin x.mode y.mode⟩ : Lock) := by unfold lJoined atMode; rw [if_pos q5, hy]
    rw [ej] at k1
    refine ⟨_, _, l69' [(⟨x.owner, x.whole, x.span, mJoin x.mode y.mode⟩ : Lock)] _ (by simp) (fun y hy => by simp at hy; subst hy; exact hx), True.intro, ?_⟩
    conv => whnf
    refine ⟨by decide, by (first | omega | (dsimp only; omega) | (simp; done) | (simp; omega)), cLock (⟨x.owner, x.whole, x.span, mJoin x.mode y.mode⟩ : Lock), rfl, ?_⟩
    conv => whnf
    intro z hz
    conv => whnf
    rw [wrap_small (by (first | omega | (dsimp only; omega) | (simp; done) | (simp; omega))) (by (first | omega | (dsimp only; omega) | (simp; done) | (simp; omega))), List.length_map, List.length_map] at hz
    subst hz
    refine And.intro (fun q6 => ?_) (fun q6 => ?_) <;> (conv => whnf)
    · rw [k1, if_pos q6]
      exact ⟨[3, 4], rfl, (by (repeat' (first | exact True.intro | exact rfl | refine And.intro ?_ ?_))), And.intro (And.intro rfl (And.intro rfl rfl)) (And.intro (And.intro rfl (And.intro rfl rfl)) True.intro)⟩
    rw [if_neg (by simpa using q6)] at k1
    have hb : l.held.length + l.queue.length < 40 := by simp at q6; omega
    have hc := fun H => c45 l (⟨x.owner, x.whole, x.span, mJoin x.mode y.mode⟩ : Lock) l.queue.length (Nat.le_refl _) h1 h2 H
    rw [show ((l.queue.length : Nat) : Int) = ((l.queue.map cLock).length : Int) by simp] at hc
    refine ⟨_, _, hc _, True.intro, ?_⟩
    conv => whnf
    have e0 : (((lAhead l (⟨x.owner, x.whole, x.span, mJoin x.mode y.mode⟩ : Lock) l.queue.length).map fun x => [DV.int .i64 x]).length : Int) = ((lAhead l (⟨x.owner, x.whole, x.span, mJoin x.mode y.mode⟩ : Lock) l.queue.length).length : Int) := by simp
    refine And.intro (fun q7 => ?_) (fun q7 => ?_) <;> (conv => whnf)
    · have q7 : decide ((((lAhead l (⟨x.owner, x.whole, x.span, mJoin x.mode y.mode⟩ : Lock) l.queue.length).map fun x => [DV.int .i64 x]).length : Int) > 0) = true := q7
      rw [e0] at q7
      rw [k1, if_pos q7]
      refine ⟨fun y hy => by simp at hy; subst hy; rfl, ?_⟩
      conv => whnf
      refine ⟨(List.length_map _).symm, by (first | omega | (dsimp only; omega) | (simp; done) | (simp; omega)), ?_⟩
      conv => whnf
      refine ⟨[3, 7], rfl, ?_, And.intro (And.intro rfl (And.intro rfl rfl)) (And.intro (And.intro rfl (And.intro rfl ?_)) True.intro)⟩
      · (repeat' (first | exact True.intro | exact rfl | refine And.intro ?_ ?_))
        show PV.row 0 7 (_ + _) = PV.row 0 7 (List.length (_ ++ _))
        rw [List.length_append]; rfl
      · show _ = List.map cLock (_ ++ _)
        rw [List.map_append]; rfl
    · have q7 : decide ((((lAhead l (⟨x.owner, x.whole, x.span, mJoin x.mode y.mode⟩ : Lock) l.queue.length).map fun x => [DV.int .i64 x]).length : Int) > 0) = false := q7
      rw [e0] at q7
      rw [k1, if_neg (by simpa using q7)]
      refine ⟨_, _, _, c63 l.held (⟨x.owner, x.whole, x.span, mJoin x.mode y.mode⟩ : Lock) (by omega) _, ?_⟩
      conv => whnf
      exact ⟨[7, 4], rfl, (by (repeat' (first | exact True.intro | exact rfl | refine And.intro ?_ ?_))), And.intro (And.intro rfl (And.intro rfl rfl)) (And.intro (And.intro rfl (And.intro rfl rfl)) True.intro)⟩
  · have q5 : ¬ lWhole l.held x ≥ 0 := by simpa using q5
    have ej : lJoined l x = x := by unfold lJoined; rw [if_neg q5]
    rw [ej] at k1
    refine ⟨_, _, l69' [x] _ (by simp) (fun y hy => by simp at hy; subst hy; exact hx), True.intro, ?_⟩
    conv => whnf
    refine ⟨by decide, by (first | omega | (dsimp only; omega) | (simp; done) | (simp; omega)), cLock x, rfl, ?_⟩
    conv => whnf
    intro z hz
    conv => whnf
    rw [wrap_small (by (first | omega | (dsimp only; omega) | (simp; done) | (simp; omega))) (by (first | omega | (dsimp only; omega) | (simp; done) | (simp; omega))), List.length_map, List.length_map] at hz
    subst hz
    refine And.intro (fun q6 => ?_) (fun q6 => ?_) <;> (conv => whnf)
    · rw [k1, if_pos q6]
      exact ⟨[3, 4], rfl, (by (repeat' (first | exact True.intro | exact rfl | refine And.intro ?_ ?_))), And.intro (And.intro rfl (And.intro rfl rfl)) (And.intro (And.intro rfl (And.intro rfl rfl)) True.intro)⟩
    rw [if_neg (by simpa using q6)] at k1
    have hb : l.held.length + l.queue.length < 40 := by simp at q6; omega
    have hc := fun H => c45 l x l.queue.length (Nat.le_refl _) h1 h2 H
    rw [show ((l.queue.length : Nat) : Int) = ((l.queue.map cLock).length : Int) by simp] at hc
    refine ⟨_, _, hc _, True.intro, ?_⟩
    conv => whnf
    have e0 : (((lAhead l x l.queue.length).map fun x => [DV.int .i64 x]).length : Int) = ((lAhead l x l.queue.length).length : Int) := by simp
    refine And.intro (fun q7 => ?_) (fun q7 => ?_) <;> (conv => whnf)
    · have q7 : decide ((((lAhead l x l.queue.length).map fun x => [DV.int .i64 x]).length : Int) > 0) = true := q7
      rw [e0] at q7
      rw [k1, if_pos q7]
      refine ⟨fun y hy => by simp at hy; subst hy; rfl, ?_⟩
      conv => whnf
      refine ⟨(List.length_map _).symm, by (first | omega | (dsimp only; omega) | (simp; done) | (simp; omega)), ?_⟩
      conv => whnf
      refine ⟨[3, 7], rfl, ?_, And.intro (And.intro rfl (And.intro rfl rfl)) (And.intro (And.intro rfl (And.intro rfl ?_)) True.intro)⟩
      · (repeat' (first | exact True.intro | exact rfl | refine And.intro ?_ ?_))
        show PV.row 0 7 (_ + _) = PV.row 0 7 (List.length (_ ++ _))
        rw [List.length_append]; rfl
      · show _ = List.map cLock (_ ++ _)
        rw [List.map_append]; rfl
    · have q7 : decide ((((lAhead l x l.queue.length).map fun x => [DV.int .i64 x]).length : Int) > 0) = false := q7
      rw [e0] at q7
      rw [k1, if_neg (by simpa using q7)]
      refine ⟨_, _, _, c63 l.held x (by omega) _, ?_⟩
      conv => whnf
      exact ⟨[7, 4], rfl, (by (repeat' (first | exact True.intro | exact rfl | refine And.intro ?_ ?_))), And.intro (And.intro rfl (And.intro rfl rfl)) (And.intro (And.intro rfl (And.intro rfl rfl)) True.intro)⟩
def pAskF (r : Locks × Int) : PV := .tuple [pLocks r.1, .d (.int .i64 r.2)]
theorem c26 (l : Locks) (x : Lock) (hs : smallLs l) (hx : smallX x) (H : List (List Blk)) : CallEq X H 42 [pLocks l, pLock x] (pAskF (lAsk l x)) [] :=
  (c26r l x hs hx H).freeze 3 (by
    change PV.tuple [fz _ 2 (rowsL (lAsk l x).1), .d _] = _
    rw [fzL]; rfl)
end Go.Proofs.Ve

/- Drop: locks without somebody's. -/
set_option maxRecDepth 100000
set_option linter.all false
namespace Go.Proofs.Ve
open Go
def dropStep (s : Locks × List Int) (x : Lock) : Locks × List Int :=
  if decide (((lAhead s.1 x s.1.queue.length).length : Int) > 0) then (⟨s.1.held, s.1.queue ++ [x]⟩, s.2) else (⟨holdL s.1.held x, s.1.queue⟩, s.2 ++ [x.owner])
def rid (o : Int) (l : List Lock) : List Lock := l.filter fun x => !(x.owner == o)
def dropAll (l : Locks) (o : Int) : Locks × List Int := (rid o l.queue).foldl dropStep (⟨rid o l.held, []⟩, [])
def lDrop (l : Locks) (o : Int) : Locks × List Int :=
  if !lCheck l || (decide (o < 0) || decide (o ≥ 4)) then (l, []) else ((dropAll l o).1, sortI (dropAll l o).2)
theorem fold_snoc {α β : Type} {f : β → α → β} {l : List α} {k : Nat} {x : α} {b : β} (h : l[k]? = some x) : (l.take (k + 1)).foldl f b = f ((l.take k).foldl f b) x := by
  rw [take_snoc' h, List.foldl_append]; rfl
theorem hold_len (l : List Lock) (x : Lock) : (holdL l x).length ≤ l.length + 1 := by
  unfold holdL; split <;> simp
theorem dropStep_len (s : Locks × List Int) (x : Lock) : (dropStep s x).1.held.length ≤ s.1.held.length + 1 ∧ (dropStep s x).1.queue.length ≤ s.1.queue.length + 1 ∧ (dropStep s x).2.length ≤ s.2.length + 1 := by
  unfold dropStep
  have := hold_len s.1.held x
  split <;> simp <;> omega
theorem fold_len (b : Locks × List Int) : ∀ (l : List Lock), (l.foldl dropStep b).1.held.length ≤ b.1.held.length + l.length ∧ (l.foldl dropStep b).1.queue.length ≤ b.1.queue.length + l.length ∧ (l.foldl dropStep b).2.length ≤ b.2.length + l.length := by
  intro l
  induction l generalizing b with
  | nil => simp
  | cons x l ih =>
    have h1 := ih (dropStep b x)
    have h2 := dropStep_len b x
    simp only [List.foldl_cons, List.length_cons]
    omega
theorem rid_len (o : Int) (l : List Lock) : (rid o l).length ≤ l.length := List.length_filter_le _ _
theorem flat_rowI (l : List Int) (e sz : Nat) : FlatN [⟨e, sz, rowI l⟩] := by
  intro r hr x hx y hy
  simp only [List.mem_singleton] at hr
  subst hr
  simp only [rowI, List.mem_map] at hx
  obtain ⟨n, _, rfl⟩ := hx
  simp only [List.mem_singleton] at hy
  subst hy; rfl
def tr25 : Tr := (.alt 0 (.alt 4 (.alt 5 (.alt 1 (.alt 2 (.alt 3 (.alt 9 (.alt 6 (.alt 7 (.alt 8 (.alt 10 (.alt 11 .fin .none) .none) .none) .none) .none) .none) (.alt 6 (.alt 3 (.alt 9 (.alt 7 (.alt 8 (.alt 10 (.alt 11 .fin .none) .none) .none) .none) .none) (.alt 7 (.alt 3 (.alt 9 (.alt 8 (.alt 10 (.alt 11 .fin .none) .none) .none) .none) .none) .none)) .none)) (.alt 6 (.alt 2 (.alt 3 (.alt 9 (.alt 7 (.alt 8 (.alt 10 (.alt 11 .fin .none) .none) .none) .none) .none) (.alt 7 (.alt 3 (.alt 9 (.alt 8 (.alt 10 (.alt 11 .fin .none) .none) .none) .none) .none) .none)) (.alt 7 (.alt 2 (.alt 3 (.alt 9 (.alt 8 (.alt 10 (.alt 11 .fin .none) .none) .none) .none) .none) .none) .none)) .none)) (.alt 2 (.alt 1 (.alt 3 (.alt 9 (.alt 6 (.alt 7 (.alt 8 (.alt 10 (.alt 11 .fin .none) .none) .none) .none) .none) .none) (.alt 6 (.alt 3 (.alt 9 (.alt 7 (.alt 8 (.alt 10 (.alt 11 .fin .none) .none) .none) .none) .none) (.alt 7 (.alt 3 (.alt 9 (.alt 8 (.alt 10 (.alt 11 .fin .none) .none) .none) .none) .none) .none)) .none)) (.alt 6 (.alt 1 (.alt 3 (.alt 9 (.alt 7 (.alt 8 (.alt 10 (.alt 11 .fin .none) .none) .none) .none) .none) (.alt 7 (.alt 3 (.alt 9 (.alt 8 (.alt 10 (.alt 11 .fin .none) .none) .none) .none) .none) .none)) (.alt 7 (.alt 1 (.alt 3 (.alt 9 (.alt 8 (.alt 10 (.alt 11 .fin .none) .none) .none) .none) .none) .none) .none)) .none)) (.alt 6 (.alt 1 (.alt 2 (.alt 3 (.alt 9 (.alt 7 (.alt 8 (.alt 10 (.alt 11 .fin .none) .none) .none) .none) .none) (.alt 7 (.alt 3 (.alt 9 (.alt 8 (.alt 10 (.alt 11 .fin .none) .none) .none) .none) .none) .none)) (.alt 7 (.alt 2 (.alt 3 (.alt 9 (.alt 8 (.alt 10 (.alt 11 .fin .none) .none) .none) .none) .none) .none) .none)) (.alt 2 (.alt 1 (.alt 3 (.alt 9 (.alt 7 (.alt 8 (.alt 10 (.alt 11 .fin .none) .none) .none) .none) .none) (.alt 7 (.alt 3 (.alt 9 (.alt 8 (.alt 10 (.alt 11 .fin .none) .none) .none) .none) .none) .none)) (.alt 7 (.alt 1 (.alt 3 (.alt 9 (.alt 8 (.alt 10 (.alt 11 .fin .none) .none) .none) .none) .none) .none) .none)) (.alt 7 (.alt 1 (.alt 2 (.alt 3 (.alt 9 (.alt 8 (.alt 10 (.alt 11 .fin .none) .none) .none) .none) .none) .none) (.alt 2 (.alt 1 (.alt 3 (.alt 9 (.alt 8 (.alt 10 (.alt 11 .fin .none) .none) .none) .none) .none) .none) .none)) .none))) .none))) .none) .none) .none)
theorem c25r (l : Locks) (o : Int) (hs : smallLs l) (H : List (List Blk)) :
    CallEq X H 26 [pLocks l, .d (.int .i64 o)] (.tuple [rowsL (lDrop l o).1, .row 0 2 (lDrop l o).2.length]) [rLocks (lDrop l o).1.held, rLocks (lDrop l o).1.queue, ⟨3, 1, rowI (lDrop l o).2⟩] := by
  have hs0 := hs
  obtain ⟨h1, h2, h3, h4⟩ := hs
  refine callEq_of_bodyM X_ok (mo := [(11, tr25)]) (by kernel_rfl) Tryz.func26 rfl ?_
  conv => whnf
  have arg : (!lCheck l || (decide (o < 0) || decide (o ≥ 4))) = true → lDrop l o = (l, []) := fun h => by unfold lDrop; rw [h]; rfl
  refine ⟨_, _, c19 l h1 h2 _, True.intro, ?_⟩
  conv => whnf
  refine And.intro (fun q1 => ?_) (fun q1 => ?_) <;> (conv => whnf)
  rotate_left
  · have q1 : lCheck l = false := by simpa using q1
    rw [arg (by rw [q1]; rfl)]
    refine ⟨_, _, c60 l hs0 _, True.intro, ?_⟩
    conv => whnf
    exact ⟨[3, 4, 100], rfl, (by (repeat' (first | exact True.intro | exact rfl | refine And.intro ?_ ?_))), (by (repeat' (first | exact True.intro | exact rfl | refine And.intro ?_ ?_)))⟩
  have q1 : lCheck l = true := by simpa using q1
  refine And.intro (fun q2 => ?_) (fun q2 => ?_) <;> (conv => whnf)
  rotate_left
  · have q2 : decide (o < 0) = true := q2
    rw [arg (by rw [q2]; simp)]
    refine ⟨_, _, c60 l hs0 _, True.intro, ?_⟩
    conv => whnf
    exact ⟨[3, 4, 100], rfl, (by (repeat' (first | exact True.intro | exact rfl | refine And.intro ?_ ?_))), (by (repeat' (first | exact True.intro | exact rfl | refine And.intro ?_ ?_)))⟩
  refine And.intro (fun q3 => ?_) (fun q3 => ?_) <;> (conv => whnf)
  · rw [arg (by rw [q3]; simp)]
    refine ⟨_, _, c60 l hs0 _, True.intro, ?_⟩
    conv => whnf
    exact ⟨[3, 4, 100], rfl, (by (repeat' (first | exact True.intro | exact rfl | refine And.intro ?_ ?_))), (by (repeat' (first | exact True.intro | exact rfl | refine And.intro ?_ ?_)))⟩
  have hb : l.held.length + l.queue.length ≤ 40 := by unfold lCheck at q1; simp at q1; omega
  have k1 : lDrop l o = ((dropAll l o).1, sortI (dropAll l o).2) := by unfold lDrop; rw [q1, q2, q3]; rfl
  refine ⟨_, _, l61 (fun x => x.owner == o) 0 1 l.held _ (by omega) h3 (fun x _ T => c61 x o T _ _ _), True.intro, ?_⟩
  conv => whnf
  refine ⟨_, _, l61 (fun x => x.owner == o) 0 1 l.queue _ (by omega) h4 (fun x _ T => c61 x o T _ _ _), True.intro, ?_⟩
  conv => whnf
  obtain ⟨Q, hQ⟩ : ∃ Q, Q = rid o l.queue := ⟨_, rfl⟩
  obtain ⟨st, hst⟩ : ∃ st : Nat → Locks × List Int, st = fun k => (Q.take k).foldl dropStep (⟨rid o l.held, []⟩, []) := ⟨_, rfl⟩
  have hst0 : st 0 = (⟨rid o l.held, []⟩, []) := by rw [hst]; rfl
  have hQl : Q.length ≤ l.queue.length := by rw [hQ]; exact rid_len _ _
  have hHl : (rid o l.held).length ≤ l.held.length := rid_len _ _
  have hlen : ∀ k, (st k).1.held.length ≤ l.held.length + l.queue.length ∧ (st k).1.queue.length ≤ l.queue.length ∧ (st k).2.length ≤ l.queue.length := fun k => by
    have h := fold_len (⟨rid o l.held, []⟩, []) (Q.take k)
    rw [hst]
    have h5 : (Q.take k).length ≤ Q.length := by rw [List.length_take]; omega
    simp only [List.length_nil] at h
    dsimp only
    omega
  have hstep : ∀ (k : Nat) x, Q[k]? = some x → st (k + 1) = dropStep (st k) x := fun k x h => by rw [hst]; exact fold_snoc h
  have hlast : lDrop l o = ((st Q.length).1, sortI (st Q.length).2) := by rw [k1, hst]; dsimp only; rw [List.take_length, hQ]; rfl
  refine loopV_of (fun k : Nat => ⟨[.any, .any, .any, .any, .ptr 0 2 0, .row 0 5 (st k).2.length, .any, .any, .any, .any, .any, .any, .any, .any, .any, .any, .any, .any, .any, .any, .any, .any, .any, .any, .any, .any, .any, .any, .any, .any, .any, .any, .row 0 6 Q.length, .d (.int .i64 Q.length), .d (.int .i64 k), .any, .any, .any, .any, .any, .any, .any, .any, .any, .any, .any, .any, .any, .any, .any, .any, .any, .any, .any, .any, .any, .any, .any, .any, .any, .any, .any, .any, .any, .any, .any, .any, .any, .any], [.dead, .dead, .box [.row 0 3 (st k).1.held.length, .row 0 4 (st k).1.queue.length], (rLocks (st k).1.held).blk, (rLocks (st k).1.queue).blk, .row 3 1 (rowI (st k).2), (rLocks Q).blk]⟩)
    (fun k => k ≤ Q.length) (fun k => Q.length - k) 0 [0, 1, 2, 3, 100, 101, 4] (Nat.zero_le _) ?_ ?_
  · rw [hst0, hQ]
    refine And.intro rfl (And.intro ?_ ?_)
    all_goals (repeat' (first | exact True.intro | exact rfl | refine And.intro ?_ ?_))
  · intro k hk
    obtain ⟨b1, b2, b3⟩ := hlen k
    conv => whnf
    refine And.intro (fun h_ => ?_) (fun h_ => ?_)
    · conv => whnf
      have hk' : k < Q.length := by simpa using h_
      obtain ⟨x, hx⟩ : ∃ x, Q[k]? = some x := ⟨_, List.getElem?_eq_getElem hk'⟩
      have hs := hstep k x hx
      refine ⟨by omega, by omega, cLock x, by show (Q.map cLock)[_]? = _; rw [List.getElem?_map]; simp [hx], ?_⟩
      conv => whnf
      have hc := fun H => c45r (st k).1 x (st k).1.queue.length (Nat.le_refl _) (by omega) (by omega) H
      have e1 : pLocks (st k).1 = .agg [.d (.sl (List.take (st k).1.held.length ((st k).1.held.map cLock))), .d (.sl (List.take (st k).1.queue.length ((st k).1.queue.map cLock)))] := by
        rw [List.take_of_length_le (by simp), List.take_of_length_le (by simp)]; rfl
      rw [e1] at hc
      refine ⟨_, _, hc _, And.intro rfl (flat_rowI _ _ _), ?_⟩
      conv => whnf
      refine And.intro (fun q4 => ?_) (fun q4 => ?_) <;> (conv => whnf)
      · have q4 : decide (((lAhead (st k).1 x (st k).1.queue.length).length : Int) > 0) = true := q4
        have hd : dropStep (st k) x = (⟨(st k).1.held, (st k).1.queue ++ [x]⟩, (st k).2) := by unfold dropStep; rw [if_pos q4]
        rw [hd] at hs
        have hql : (st (k + 1)).1.queue.length = (st k).1.queue.length + 1 := by rw [hs]; simp
        refine ⟨fun y hy => by simp at hy; subst hy; rfl, ?_⟩
        conv => whnf
        refine ⟨(List.length_map _).symm, by (first | omega | (dsimp only; omega) | (simp; done) | (simp; omega)), ?_⟩
        conv => whnf
        intro z hz
        conv => whnf
        rw [wrap_small (by omega) (by omega)] at hz
        subst hz
        refine ⟨k + 1, [0, 1, 2, 3, 10, 5, 6], by omega, by omega, And.intro rfl (And.intro ?_ ?_)⟩
        all_goals rw [hs]
        all_goals (repeat' (first | exact True.intro | exact rfl | refine And.intro ?_ ?_))
        · show PV.row 0 10 (_ + _) = PV.row 0 10 (List.length (_ ++ _))
          rw [List.length_append]; rfl
        · show _ = List.map cLock (_ ++ _)
          rw [List.map_append]; rfl
      · have q4 : decide (((lAhead (st k).1 x (st k).1.queue.length).length : Int) > 0) = false := q4
        have hd : dropStep (st k) x = (⟨holdL (st k).1.held x, (st k).1.queue⟩, (st k).2 ++ [x.owner]) := by unfold dropStep; rw [if_neg (by simpa using q4)]
        rw [hd] at hs
        have hgl : (st (k + 1)).2.length = (st k).2.length + 1 := by rw [hs]; simp
        repeat' (first
          | (refine ⟨fun y hy => by simp at hy; subst hy; rfl, ?_⟩; (conv => whnf); refine ⟨(rowI_len _).symm, by (first | omega | (dsimp only; omega) | (simp; done) | (simp; omega)), ?_⟩; (conv => whnf))
          | (refine ⟨_, _, _, c63 (st k).1.held x (by omega) _, ?_⟩; conv => whnf)
          | (refine And.intro ?_ ?_ <;> (conv => whnf)))
        all_goals
          intro z hz
          conv => whnf
          rw [wrap_small (by omega) (by omega)] at hz
          subst hz
          refine ⟨k + 1, [0, 1, 2, 10, 4, 11, 6], by omega, by omega, And.intro rfl (And.intro ?_ ?_)⟩
          all_goals rw [hs]
          all_goals (repeat' (first | exact True.intro | exact rfl | refine And.intro ?_ ?_))
          all_goals (first
            | (show PV.row 0 11 (_ + _) = PV.row 0 11 (List.length (_ ++ _)); rw [List.length_append]; rfl)
            | (show _ = rowI (_ ++ _); unfold rowI; rw [List.map_append]; rfl))
    · conv => whnf
      have hk' : k = Q.length := by simp at h_; omega
      subst hk'
      refine ⟨_, _, _, c64 (st Q.length).2 (by omega) _, ?_⟩
      conv => whnf
      rw [hlast]
      refine ⟨[3, 4, 5], rfl, ?_, ?_⟩
      all_goals (repeat' (first | exact True.intro | exact rfl | refine And.intro ?_ ?_))
      show PV.row 0 5 _ = PV.row 0 5 _
      rw [sortI_len]
theorem fzD (r : Locks × List Int) : fz [rLocks r.1.held, rLocks r.1.queue, ⟨3, 1, rowI r.2⟩] 3 (.tuple [rowsL r.1, .row 0 2 r.2.length]) = .tuple [pLocks r.1, .d (encI r.2)] := by
  change PV.tuple [.agg [.d (.sl (List.take r.1.held.length (r.1.held.map cLock))), .d (.sl (List.take r.1.queue.length (r.1.queue.map cLock)))], .d (.sl (List.take r.2.length (rowI r.2)))] = _
  rw [List.take_of_length_le (by simp), List.take_of_length_le (by simp), List.take_of_length_le (by rw [rowI_len]; exact Nat.le_refl _)]; rfl
def pDropF (r : Locks × List Int) : PV := .tuple [pLocks r.1, .d (encI r.2)]
theorem c25 (l : Locks) (o : Int) (hs : smallLs l) (H : List (List Blk)) : CallEq X H 26 [pLocks l, .d (.int .i64 o)] (pDropF (lDrop l o)) [] :=
  (c25r l o hs H).freeze 3 (fzD _)
end Go.Proofs.Ve

/- Plain laws: texts' order, modes, spans, clashes: the program's words and the document's are one. -/
set_option linter.all false
namespace Go.Proofs.Ve
open Go
/-! ### texts' order -/
def cm (a b : List UInt8) : Int := Go.Lib.compareBytes a b
theorem cm_nn : cm [] [] = 0 := rfl
theorem cm_nc (b : UInt8) (bs : List UInt8) : cm [] (b :: bs) = -1 := rfl
theorem cm_cn (a : UInt8) (ts : List UInt8) : cm (a :: ts) [] = 1 := rfl
theorem cm_cc (a b : UInt8) (ts bs : List UInt8) : cm (a :: ts) (b :: bs) = if a < b then -1 else if b < a then 1 else cm ts bs := rfl
theorem cmpB_eq (a b : List UInt8) : cmpB a b = cm a b := Go.Lib.cmp_eq _ _
theorem u8 {a b : UInt8} : a < b ↔ a.toNat < b.toNat := UInt8.lt_iff_toNat_lt
theorem u8_eq {a b : UInt8} (h1 : ¬ a < b) (h2 : ¬ b < a) : a = b := UInt8.toNat_inj.1 (by rw [u8] at h1 h2; omega)
theorem cm_flip : ∀ (a b : List UInt8), cm b a = - cm a b
  | [], [] => rfl
  | [], _ :: _ => rfl
  | _ :: _, [] => rfl
  | a :: ts, b :: bs => by
    rw [cm_cc, cm_cc]
    by_cases h1 : a < b
    · have h2 : ¬ b < a := by rw [u8] at h1 ⊢; omega
      rw [if_neg h2, if_pos h1, if_pos h1]; rfl
    · by_cases h2 : b < a
      · rw [if_pos h2, if_neg h1, if_pos h2]
      · rw [if_neg h1, if_neg h2, if_neg h2, if_neg h1, cm_flip ts bs]
theorem cm_eq : ∀ (a b : List UInt8), cm a b = 0 ↔ a = b
  | [], [] => by simp [cm_nn]
  | [], _ :: _ => by simp [cm_nc]
  | _ :: _, [] => by simp [cm_cn]
  | a :: ts, b :: bs => by
    rw [cm_cc]
    by_cases h1 : a < b
    · rw [if_pos h1]
      have : a ≠ b := fun e => by subst e; rw [u8] at h1; omega
      simp [this]
    · by_cases h2 : b < a
      · rw [if_neg h1, if_pos h2]
        have : a ≠ b := fun e => by subst e; rw [u8] at h2; omega
        simp [this]
      · rw [if_neg h1, if_neg h2, cm_eq ts bs]
        simp [u8_eq h1 h2]
theorem cm_self (a : List UInt8) : cm a a = 0 := (cm_eq a a).2 rfl
theorem cm_trans : ∀ (a b c : List UInt8), cm a b ≤ 0 → cm b c ≤ 0 → cm a c ≤ 0
  | [], _, [], _, _ => by simp [cm_nn]
  | [], _, _ :: _, _, _ => by simp [cm_nc]
  | _ :: _, [], _, h, _ => by simp [cm_cn] at h
  | _ :: _, _ :: _, [], _, h => by simp [cm_cn] at h
  | a :: ts, b :: bs, c :: cs, h, h' => by
    rw [cm_cc] at h h' ⊢
    by_cases h1 : a < b
    · by_cases h3 : b < c
      · rw [if_pos (by rw [u8] at *; omega)]; decide
      · by_cases h4 : c < b
        · rw [if_neg h3, if_pos h4] at h'; simp at h'
        · rw [← u8_eq h3 h4, if_pos h1]; decide
    · by_cases h2 : b < a
      · rw [if_neg h1, if_pos h2] at h; simp at h
      · have e := u8_eq h1 h2
        subst e
        rw [if_neg h1, if_neg h1] at h
        by_cases h3 : a < c
        · rw [if_pos h3]; decide
        · by_cases h4 : c < a
          · rw [if_neg h3, if_pos h4] at h'; simp at h'
          · rw [if_neg h3, if_neg h4] at h' ⊢
            exact cm_trans ts bs cs h h'
theorem cm_range (a b : List UInt8) : cm a b = -1 ∨ cm a b = 0 ∨ cm a b = 1 := by
  induction a generalizing b with
  | nil => cases b <;> simp [cm_nn, cm_nc]
  | cons x a ih =>
    cases b with
    | nil => simp [cm_cn]
    | cons y b =>
      rw [cm_cc]
      by_cases h1 : x < y
      · simp [h1]
      · by_cases h2 : y < x
        · simp [h1, h2]
        · rw [if_neg h1, if_neg h2]; exact ih b
theorem less_eq : ∀ (a b : List UInt8), Op.bytesLess a b = decide (cm a b < 0)
  | [], [] => rfl
  | [], _ :: _ => rfl
  | _ :: _, [] => rfl
  | a :: ts, b :: bs => by
    rw [Op.bytesLess, cm_cc, less_eq ts bs]
    by_cases h1 : a < b
    · simp [h1]
    · by_cases h2 : b < a
      · have : a ≠ b := fun e => by subst e; exact h1 h2
        simp [h1, h2, this]
      · simp [h1, h2, u8_eq h1 h2]
theorem toBA_list (a : List UInt8) : (toBA a).toList = a := by
  have : (toBA a).toList = (toBA a).data.toList := ByteArray.toList_eq _
  rw [this]; rfl
theorem ltB_eq (a b : List UInt8) : ltB a b = decide (cm a b < 0) := by unfold ltB; rw [toBA_list, toBA_list, less_eq]
theorem eqB_eq (a b : List UInt8) : eqB a b = decide (cm a b = 0) := by
  unfold eqB
  rw [toBA_list, toBA_list]
  by_cases h : a = b
  · subst h; simp [cm_self]
  · have : cm a b ≠ 0 := fun e => h ((cm_eq a b).1 e)
    simp [h, this]
/-! ### modes -/
theorem may_is (m : Int) : decide (rMay m > 0) = mIs m := by
  unfold rMay mIs
  by_cases h1 : m = 1
  · subst h1; rfl
  by_cases h2 : m = 2
  · subst h2; rfl
  by_cases h3 : m = 3
  · subst h3; rfl
  by_cases h4 : m = 4
  · subst h4; rfl
  by_cases h5 : m = 5
  · subst h5; rfl
  have e1 : (m == 1) = false := by simpa using h1
  have e2 : (m == 2) = false := by simpa using h2
  have e3 : (m == 3) = false := by simpa using h3
  have e4 : (m == 4) = false := by simpa using h4
  have e5 : (m == 5) = false := by simpa using h5
  rw [e1, e2, e3, e4, e5]
  simp
  omega
theorem may_no {m : Int} (h : mIs m = false) : rMay m = 0 := by
  rw [← may_is] at h
  have h0 : ¬ rMay m > 0 := by simpa using h
  have : 0 ≤ rMay m := by unfold rMay; split <;> (try split) <;> (try split) <;> (try split) <;> (try split) <;> decide
  omega
theorem fits_eq (a b : Int) : mFits a b = rFits a b := by
  by_cases ha : mIs a = true
  · by_cases hb : mIs b = true
    · rcases mIs_cases ha with rfl | rfl | rfl | rfl | rfl <;> rcases mIs_cases hb with rfl | rfl | rfl | rfl | rfl <;> decide
    · have hb : mIs b = false := by simpa using hb
      unfold mFits rFits; rw [hb, may_no hb]; simp
  · have ha : mIs a = false := by simpa using ha
    unfold mFits rFits; rw [ha, may_no ha]; simp
theorem covers_eq (a b : Int) : mCovers a b = rCovers a b := by
  by_cases ha : mIs a = true
  · by_cases hb : mIs b = true
    · rcases mIs_cases ha with rfl | rfl | rfl | rfl | rfl <;> rcases mIs_cases hb with rfl | rfl | rfl | rfl | rfl <;> decide
    · have hb : mIs b = false := by simpa using hb
      unfold mCovers rCovers; rw [hb, may_no hb]; simp
  · have ha : mIs a = false := by simpa using ha
    unfold mCovers rCovers; rw [ha, may_no ha]; simp
theorem covers_self (m : Int) : mCovers m m = mIs m := by
  cases h : mIs m with
  | true => unfold mCovers; rw [h]; simp
  | false => unfold mCovers; rw [h]; rfl
/-! ### spans -/
theorem check_eq (s : Span) : sCheck s = rSCheck s := by
  unfold sCheck rSCheck
  have : decide (s.t < 4) = decide (s.t ≤ 3) := by simp; omega
  rw [this]
theorem empty_eq (s : Span) : sEmpty s = rSEmpty s := by
  unfold sEmpty rSEmpty
  rw [cmpB_eq, ltB_eq, eqB_eq]
  have : decide (cm s.hi s.lo ≤ 0) = (decide (cm s.hi s.lo < 0) || decide (cm s.hi s.lo = 0)) := by
    rw [Bool.eq_iff_iff]; simp; omega
  rw [this]
theorem meets_eq (a b : Span) : sMeets a b = rMeets a b := by
  unfold sMeets rMeets sIn rSIn
  simp only [cmpB_eq, ltB_eq]
  have r1 := cm_self a.lo
  have r2 := cm_self b.lo
  have fl := cm_flip a.lo b.lo
  by_cases ht : a.t = b.t
  · by_cases h : cm a.lo b.lo < 0
    · have h' : ¬ cm b.lo a.lo < 0 := by omega
      simp [h, h', ht, r1, r2]
      have : cm a.lo b.lo ≤ 0 := by omega
      simp [this]
    · by_cases h2 : cm a.lo b.lo = 0
      · have e := (cm_eq _ _).1 h2
        simp [e, ht, r2]
        cases a.op <;> cases b.op <;> simp [Bool.and_comm]
        exact fun p q => ⟨q, p⟩
      · have h3 : cm b.lo a.lo < 0 := by omega
        simp [h, h3, ht, r1]
        have : cm b.lo a.lo ≤ 0 := by omega
        simp [this, Bool.and_comm]
  · have ht' : ¬ b.t = a.t := fun e => ht e.symm
    have e1 : (a.t == b.t) = false := by simpa using ht
    have e2 : (b.t == a.t) = false := by simpa using ht'
    simp [e1, e2]
/-! ### locks -/
theorem lmay_eq (x : Lock) : lMay x = rLMay x := by
  unfold lMay rLMay
  rw [covers_self, check_eq, empty_eq]
  have e0 : decide (x.owner ≥ 4) = decide (x.owner > 3) := by simp; omega
  rw [e0]
  by_cases h : (decide (x.owner < 0) || decide (x.owner > 3)) = true
  · rw [if_pos h]
    have : (decide (x.owner < 0) || (decide (x.owner > 3) || !rSCheck x.span)) = true := by
      simp only [Bool.or_eq_true] at h ⊢
      rcases h with h | h
      · exact .inl h
      · exact .inr (.inl h)
    rw [if_pos this]
  · rw [if_neg h]
    have h1 : decide (x.owner < 0) = false ∧ decide (x.owner > 3) = false := by simpa using h
    rw [h1.1, h1.2]
    simp only [Bool.false_or]
    rw [may_is]
    cases hc : rSCheck x.span with
    | true =>
      simp only [Bool.not_true, Bool.false_eq_true, if_false, Bool.true_and]
      cases hw : x.whole with
      | false => rfl
      | true =>
        simp only [if_true]
        unfold rSCheck at hc
        simp only [Bool.and_eq_true] at hc
        obtain ⟨⟨⟨⟨a1, a2⟩, _⟩, _⟩, _⟩ := hc
        rw [a1, a2]; simp
    | false =>
      simp only [Bool.not_false, if_true, Bool.false_and]
      cases hw : x.whole with
      | false => simp
      | true =>
        simp only [if_true]
        cases hb : ((x.span.lo.length : Int) == 0 && ((x.span.hi.length : Int) == 0 && !x.span.op)) with
        | false => simp
        | true =>
          simp only [Bool.and_eq_true, beq_iff_eq, Bool.not_eq_true'] at hb
          obtain ⟨b1, b2, b3⟩ := hb
          unfold rSCheck at hc
          rw [b1, b2, b3] at hc
          simp at hc
          simp
          intro h1 h2
          omega
theorem clash_eq (a b : Lock) : lClash a b = rClash a b := by
  unfold lClash rClash; rw [fits_eq, meets_eq]
theorem weak_eq (x y : Lock) : lWeak x y = rWeak x y := by unfold lWeak rWeak; rw [covers_eq]
theorem twice_eq (x y : Lock) : lTwice x y = rTwice x y := by unfold lTwice rTwice; rw [clash_eq]
end Go.Proofs.Ve

/- Plain laws: numbers in order, each once; locks that may be; whom somebody waits for. -/
set_option linter.all false
namespace Go.Proofs.Ve
open Go
/-! ### numbers in order, each once -/
def ddF (last : Int) : List Int → List Int
  | [] => []
  | y :: ys => if y = last then ddF last ys else y :: ddF y ys
def dd : List Int → List Int
  | [] => []
  | x :: xs => x :: ddF x xs
def lastF (last : Int) : List Int → Int
  | [] => last
  | x :: l => lastF x l
theorem lastF_at : ∀ (l : List Int) (last : Int), (last :: l)[l.length]? = some (lastF last l)
  | [], last => rfl
  | x :: l, last => by
    have := lastF_at l x
    simpa [lastF] using this
theorem ddF_snoc (y : Int) : ∀ (l : List Int) (last : Int), ddF last (l ++ [y]) = ddF last l ++ if lastF last l = y then [] else [y]
  | [], last => by
    show (if y = last then [] else [y]) = [] ++ (if last = y then [] else [y])
    by_cases h : y = last
    · rw [if_pos h, if_pos h.symm]; rfl
    · rw [if_neg h, if_neg (fun e : last = y => h e.symm)]; rfl
  | x :: l, last => by
    rw [List.cons_append, ddF, ddF, lastF]
    by_cases h : x = last
    · subst h
      rw [if_pos rfl, if_pos rfl, ddF_snoc y l x]
    · rw [if_neg h, if_neg h, ddF_snoc y l x, List.cons_append]
theorem comp_dd (l : List Int) : compI l = dd l := by
  have key : ∀ m, m ≤ l.length → Lib.compactUpTo l.toArray m = dd (l.take m) := by
    intro m
    induction m with
    | zero => intro _; simp [Lib.compactUpTo, dd]
    | succ m ih =>
      intro hm
      have hlt : m < l.length := by omega
      rw [Lib.compactUpTo_succ, ih (by omega)]
      have hx : l[m]? = some l[m] := List.getElem?_eq_getElem hlt
      rw [take_snoc' hx]
      have hg : l.toArray[m]! = l[m] := by simp [hlt]
      rw [hg]
      cases m with
      | zero => simp [Lib.keeps, dd, ddF]
      | succ m =>
        have hlt' : m < l.length := by omega
        have hg' : l.toArray[m + 1 - 1]! = l[m] := by simp [hlt']
        cases hT : l.take (m + 1) with
        | nil =>
          exfalso
          have := congrArg List.length hT
          rw [List.length_take, List.length_nil] at this
          omega
        | cons x xs =>
          have hxl : xs.length = m := by
            have := congrArg List.length hT
            rw [List.length_take, List.length_cons] at this
            omega
          have hlast : lastF x xs = l[m] := by
            have h1 := lastF_at xs x
            rw [hxl, ← hT, List.getElem?_take_of_lt (by omega), List.getElem?_eq_getElem hlt'] at h1
            exact (Option.some.inj h1).symm
          rw [List.cons_append]
          simp only [dd]
          rw [ddF_snoc, hlast, List.cons_append]
          congr 1
          congr 1
          unfold Lib.keeps
          rw [hg, hg']
          by_cases h : l[m] = l[m + 1]
          · simp [h]
          · have h' : ¬ l[m + 1] = l[m] := fun e => h e.symm
            simp [h, h']
  have := key l.length (Nat.le_refl _)
  rw [List.take_length] at this
  exact this
def Asc (l : List Int) : Prop := l.Pairwise (· < ·)
theorem asc_eq : ∀ {a b : List Int}, Asc a → Asc b → (∀ x, x ∈ a ↔ x ∈ b) → a = b
  | [], [], _, _, _ => rfl
  | [], y :: b, _, _, h => by have := (h y).2 List.mem_cons_self; cases this
  | x :: a, [], _, _, h => by have := (h x).1 List.mem_cons_self; cases this
  | x :: a, y :: b, ha, hb, h => by
    unfold Asc at ha hb
    rw [List.pairwise_cons] at ha hb
    have h1 : x = y := by
      have h2 := (h x).1 List.mem_cons_self
      have h3 := (h y).2 List.mem_cons_self
      rw [List.mem_cons] at h2 h3
      rcases h2 with h2 | h2
      · exact h2
      · rcases h3 with h3 | h3
        · exact h3.symm
        · have := ha.1 y h3; have := hb.1 x h2; omega
    subst h1
    congr 1
    refine asc_eq ha.2 hb.2 fun z => ?_
    have hz := h z
    rw [List.mem_cons, List.mem_cons] at hz
    constructor
    · intro hza
      rcases hz.1 (.inr hza) with rfl | h'
      · have := ha.1 z hza; omega
      · exact h'
    · intro hzb
      rcases hz.2 (.inr hzb) with rfl | h'
      · have := hb.1 z hzb; omega
      · exact h'
theorem ddF_mem : ∀ (l : List Int) (last x : Int), x ∈ ddF last l → x ∈ l
  | [], last, x, h => by cases h
  | y :: l, last, x, h => by
    rw [ddF] at h
    split at h
    · exact List.mem_cons_of_mem _ (ddF_mem l last x h)
    · rw [List.mem_cons] at h ⊢
      exact h.imp id (ddF_mem l y x)
theorem ddF_all : ∀ (l : List Int) (last x : Int), x ∈ l → x = last ∨ x ∈ ddF last l
  | [], last, x, h => by cases h
  | y :: l, last, x, h => by
    rw [ddF]
    rw [List.mem_cons] at h
    split
    · rename_i he
      rcases h with h | h
      · exact .inl (h.trans he)
      · exact ddF_all l last x h
    · rw [List.mem_cons]
      rcases h with h | h
      · exact .inr (.inl h)
      · exact .inr (ddF_all l y x h)
theorem ddF_asc : ∀ (l : List Int) (last : Int), (last :: l).Pairwise (· ≤ ·) → Asc (last :: ddF last l)
  | [], last, _ => by simp [Asc, ddF]
  | y :: l, last, h => by
    rw [List.pairwise_cons] at h
    rw [ddF]
    split
    · rename_i he
      subst he
      exact ddF_asc l y h.2
    · rename_i hne
      have h1 := ddF_asc l y h.2
      unfold Asc at h1 ⊢
      refine List.pairwise_cons.2 ⟨fun z hz => ?_, h1⟩
      have hly := h.1 y List.mem_cons_self
      rw [List.mem_cons] at hz
      rcases hz with rfl | hz
      · omega
      · have := (List.pairwise_cons.1 h1).1 z hz; omega
theorem dd_mem (l : List Int) (x : Int) : x ∈ dd l ↔ x ∈ l := by
  cases l with
  | nil => simp [dd]
  | cons y l =>
    rw [dd, List.mem_cons, List.mem_cons]
    constructor
    · rintro (h | h)
      · exact .inl h
      · exact .inr (ddF_mem l y x h)
    · rintro (h | h)
      · exact .inl h
      · exact ddF_all l y x h
theorem dd_asc {l : List Int} (h : l.Pairwise (· ≤ ·)) : Asc (dd l) := by
  cases l with
  | nil => exact List.Pairwise.nil
  | cons y l => exact ddF_asc l y h
theorem sortI_sorted (l : List Int) : (sortI l).Pairwise (· ≤ ·) := by
  have := List.pairwise_mergeSort (le := fun x y : Int => decide (x ≤ y)) (fun a b c h1 h2 => by simp only [decide_eq_true_eq] at *; omega) (fun a b => by simp only [Bool.or_eq_true, decide_eq_true_eq]; omega) l
  exact this.imp fun {a b} h => by simpa using h
theorem sortI_mem (l : List Int) (x : Int) : x ∈ sortI l ↔ x ∈ l := (List.mergeSort_perm l _).mem_iff
def once (l : List Int) : List Int := compI (sortI l)
theorem once_mem (l : List Int) (x : Int) : x ∈ once l ↔ x ∈ l := by unfold once; rw [comp_dd, dd_mem, sortI_mem]
theorem once_asc (l : List Int) : Asc (once l) := by unfold once; rw [comp_dd]; exact dd_asc (sortI_sorted l)
theorem bitsL_mem : ∀ (bs : List Bool) (i x : Int), x ∈ bitsL bs i ↔ ∃ k : Nat, x = i + k ∧ bs[k]? = some true
  | [], i, x => by simp [bitsL]
  | b :: bs, i, x => by
    have ih := bitsL_mem bs (i + 1) x
    have e : (∃ k : Nat, x = i + k ∧ (b :: bs)[k]? = some true) ↔ (x = i ∧ b = true) ∨ ∃ k : Nat, x = i + 1 + k ∧ bs[k]? = some true := by
      constructor
      · rintro ⟨k, h1, h2⟩
        cases k with
        | zero => exact .inl ⟨by simpa using h1, by simpa using h2⟩
        | succ k => exact .inr ⟨k, by rw [h1]; simp; omega, by simpa using h2⟩
      · rintro (⟨h1, h2⟩ | ⟨k, h1, h2⟩)
        · exact ⟨0, by simpa using h1, by simpa using h2⟩
        · exact ⟨k + 1, by rw [h1]; simp; omega, by simpa using h2⟩
    rw [e]
    cases b with
    | true => rw [bitsL, cond_true, List.mem_cons, ih]; simp
    | false => rw [bitsL, cond_false, ih]; simp
theorem bitsL_asc : ∀ (bs : List Bool) (i : Int), Asc (bitsL bs i)
  | [], i => List.Pairwise.nil
  | b :: bs, i => by
    have ih := bitsL_asc bs (i + 1)
    cases b with
    | false => exact ih
    | true =>
      refine List.pairwise_cons.2 ⟨fun x hx => ?_, ih⟩
      obtain ⟨k, h, _⟩ := (bitsL_mem bs (i + 1) x).1 hx
      omega
/-! ### who is ahead -/
theorem ahead_eq (l : Locks) (x : Lock) (k : Nat) (h1 : ∀ y ∈ l.held, ownOk y) (h2 : ∀ y ∈ l.queue, ownOk y) : lAhead l x k = rAhead l x k := by
  have hL : ∀ y ∈ l.held ++ l.queue.take k, ownOk y := fun y hy => by
    rw [List.mem_append] at hy
    rcases hy with hy | hy
    · exact h1 y hy
    · exact h2 y (List.mem_of_mem_take hy)
  unfold lAhead rAhead
  generalize l.held ++ l.queue.take k = L at hL
  refine asc_eq (once_asc _) (bitsL_asc _ _) fun o => ?_
  have hany : ∀ o, anyB x L o = true ↔ ∃ y, y ∈ L ∧ rClash y x = true ∧ y.owner = o := fun o => by
    unfold anyB
    rw [List.any_eq_true]
    simp
  have e1 : o ∈ once (aheadOf x L) ↔ ∃ y, y ∈ L ∧ rClash y x = true ∧ y.owner = o := by
    rw [once_mem]
    unfold aheadOf
    simp only [List.mem_map, List.mem_filter, clash_eq, and_assoc]
  refine e1.trans (Iff.trans ?_ (bitsL_mem _ _ _).symm)
  rw [← hany]
  constructor
  · intro h
    obtain ⟨y, hy, _, ho⟩ := (hany o).1 h
    rcases hL y hy with h0 | h0 | h0 | h0 <;> rw [h0] at ho <;> subst ho
    · exact ⟨0, rfl, by simpa using h⟩
    · exact ⟨1, rfl, by simpa using h⟩
    · exact ⟨2, rfl, by simpa using h⟩
    · exact ⟨3, rfl, by simpa using h⟩
  · rintro ⟨k, rfl, h⟩
    match k, h with
    | 0, h => simpa using h
    | 1, h => simpa using h
    | 2, h => simpa using h
    | 3, h => simpa using h
    | k + 4, h => simp at h
/-! ### locks that may be -/
theorem single_any : ∀ (l pre : List Lock), rHeldF pre l = (l.all (fun x => rLMay x) && singleFrom pre l)
  | [], pre => rfl
  | x :: l, pre => by
    rw [rHeldF, singleFrom, single_any l, List.all_cons]
    have : pre.any (lTwice x) = pre.any (rTwice x) := by congr 1; funext y; exact twice_eq x y
    rw [this]
    cases rLMay x <;> cases pre.any (rTwice x) <;> simp
def newF (pre : List Lock) : List Lock → Bool
  | [] => true
  | x :: xs => !(pre.any fun y => y.owner == x.owner) && newF (pre ++ [x]) xs
theorem que_new : ∀ (l pre : List Lock), rQueF pre l = (l.all (fun x => rLMay x) && newF pre l)
  | [], pre => rfl
  | x :: l, pre => by
    rw [rQueF, newF, que_new l, List.all_cons]
    cases rLMay x <;> cases pre.any (fun y => y.owner == x.owner) <;> simp
theorem idxOf_app {α : Type} (p : α → Bool) : ∀ (a b : List α) (k : Int), idxOf p (a ++ b) k = if a.any p then idxOf p a k else idxOf p b (k + a.length)
  | [], b, k => by simp
  | x :: a, b, k => by
    rw [List.cons_append, idxOf, idxOf, idxOf_app p a b, List.any_cons]
    cases hx : p x with
    | true => simp
    | false =>
      simp only [cond_false, Bool.false_or, List.length_cons]
      split
      · rfl
      · congr 1; simp; omega
theorem idxOf_in {α : Type} (p : α → Bool) : ∀ (a : List α) (k : Int), a.any p = true → idxOf p a k < k + a.length
  | [], k, h => by cases h
  | x :: a, k, h => by
    rw [idxOf]
    cases hx : p x with
    | true => simp; omega
    | false =>
      rw [List.any_cons, hx, Bool.false_or] at h
      have := idxOf_in p a (k + 1) h
      simp only [cond_false, List.length_cons]
      push_cast
      omega
theorem place_new (pre : List Lock) (x : Lock) (l : List Lock) : (place (pre ++ x :: l) x.owner == (pre.length : Int)) = !(pre.any fun y => y.owner == x.owner) := by
  unfold place
  rw [idxOf_app]
  cases h : pre.any (fun y => y.owner == x.owner) with
  | true =>
    rw [if_pos rfl]
    have := idxOf_in (fun y : Lock => y.owner == x.owner) pre 0 h
    have hne : idxOf (fun y : Lock => y.owner == x.owner) pre 0 ≠ (pre.length : Int) := by omega
    simpa using hne
  | false => simp [idxOf]
theorem queue_eq (l : Locks) (h1 : ∀ y ∈ l.held, ownOk y) (h2 : ∀ y ∈ l.queue, ownOk y) : ∀ (xs pre : List Lock), l.queue = pre ++ xs →
    (lQ l xs pre.length && !xs.any fun x => l.held.any (lWeak x)) = (newF pre xs && rQ2 l xs pre.length)
  | [], pre, _ => rfl
  | x :: xs, pre, he => by
    have ih := queue_eq l h1 h2 xs (pre ++ [x]) (by simpa using he)
    rw [List.length_append, List.length_singleton] at ih
    have ha := ahead_eq l x pre.length h1 h2
    have hp : (place l.queue x.owner == (pre.length : Int)) = !(pre.any fun y => y.owner == x.owner) := by rw [he]; exact place_new pre x xs
    have hw : l.held.any (lWeak x) = l.held.any (rWeak x) := by congr 1; funext y; exact weak_eq x y
    rw [lQ, newF, rQ2, List.any_cons]
    unfold lQok
    rw [hp, ha, hw]
    have hl : decide (((rAhead l x pre.length).length : Int) > 0) = !(((rAhead l x pre.length).length : Int) == 0) := by
      cases (rAhead l x pre.length).length with
      | zero => rfl
      | succ n => simp; omega
    rw [hl]
    cases pre.any (fun y => y.owner == x.owner) <;> cases (((rAhead l x pre.length).length : Int) == 0) <;> cases l.held.any (rWeak x) <;> simp_all
theorem any_not {α : Type} (p : α → Bool) (l : List α) : (l.any fun x => !p x) = !l.all p := by
  induction l with
  | nil => rfl
  | cons x l ih => rw [List.any_cons, List.all_cons, ih]; cases p x <;> simp
theorem lcheck_eq (l : Locks) : lCheck l = rCheck l := by
  unfold lCheck rCheck
  rw [single_any, que_new, any_not, any_not]
  have e : ∀ (xs : List Lock), xs.all lMay = xs.all (fun x => rLMay x) := fun xs => by congr 1; funext x; exact lmay_eq x
  rw [e, e]
  cases ha : l.held.all (fun x => rLMay x) with
  | false => simp
  | true =>
    cases hb : l.queue.all (fun x => rLMay x) with
    | false => simp
    | true =>
      have h1 : ∀ y ∈ l.held, ownOk y := fun y hy => may_own (List.all_eq_true.1 ha y hy)
      have h2 : ∀ y ∈ l.queue, ownOk y := fun y hy => may_own (List.all_eq_true.1 hb y hy)
      have hq := queue_eq l h1 h2 l.queue [] rfl
      simp only [List.length_nil] at hq
      simp only [Bool.not_true, Bool.or_false, Bool.true_and]
      congr 1
      rw [Bool.and_left_comm, hq]
theorem lwaits_eq (l : Locks) (o : Int) : lWaits l o = rWaits l o := by unfold lWaits rWaits; rw [lcheck_eq]
theorem lblockers_eq (l : Locks) (o : Int) : lBlockers l o = rBlockers l o := by
  unfold lBlockers rBlockers
  rw [lwaits_eq]
  cases h : rWaits l o with
  | false => rfl
  | true =>
    have hc : rCheck l = true := by unfold rWaits at h; simp only [Bool.and_eq_true] at h; exact h.1
    obtain ⟨h1, h2⟩ := rCheck_own hc
    simp only [if_true]
    cases l.queue[(place l.queue o).toNat]? with
    | some y => exact ahead_eq l y _ h1 h2
    | none => rfl
theorem same_self : ∀ (l : List Int), sameFrom l l = true
  | [] => rfl
  | x :: l => by rw [sameFrom]; simp [same_self l]
theorem numbers_self (l : List Int) : numbers l l = true := by unfold numbers; simp [same_self]
end Go.Proofs.Ve

/- Plain words that Lean can reckon with: Ask, Drop, Check. -/
set_option linter.all false
namespace Go.Proofs.Ve
open Go
def ins (x : Int) : List Int → List Int
  | [] => [x]
  | y :: ys => if x ≤ y then x :: y :: ys else y :: ins x ys
def isort : List Int → List Int
  | [] => []
  | x :: xs => ins x (isort xs)
theorem ins_mem (x : Int) : ∀ (l : List Int) (z : Int), z ∈ ins x l ↔ z = x ∨ z ∈ l
  | [], z => by simp [ins]
  | y :: l, z => by
    rw [ins]
    split
    · simp
    · rw [List.mem_cons, ins_mem x l z, List.mem_cons]
      constructor
      · rintro (h | h | h) <;> simp [h]
      · rintro (h | h | h) <;> simp [h]
theorem ins_sorted (x : Int) : ∀ (l : List Int), l.Pairwise (· ≤ ·) → (ins x l).Pairwise (· ≤ ·)
  | [], _ => by simp [ins]
  | y :: l, h => by
    rw [List.pairwise_cons] at h
    rw [ins]
    split
    · rename_i hxy
      refine List.pairwise_cons.2 ⟨fun z hz => ?_, List.pairwise_cons.2 h⟩
      rw [List.mem_cons] at hz
      rcases hz with rfl | hz
      · exact hxy
      · have := h.1 z hz; omega
    · rename_i hxy
      refine List.pairwise_cons.2 ⟨fun z hz => ?_, ins_sorted x l h.2⟩
      rw [ins_mem] at hz
      rcases hz with rfl | hz
      · omega
      · exact h.1 z hz
theorem isort_mem : ∀ (l : List Int) (z : Int), z ∈ isort l ↔ z ∈ l
  | [], z => by simp [isort]
  | x :: l, z => by rw [isort, ins_mem, isort_mem l z, List.mem_cons]
theorem isort_sorted : ∀ (l : List Int), (isort l).Pairwise (· ≤ ·)
  | [] => List.Pairwise.nil
  | x :: l => ins_sorted x _ (isort_sorted l)
theorem ins_perm (x : Int) : ∀ (l : List Int), (ins x l).Perm (x :: l)
  | [] => .refl _
  | y :: l => by
    rw [ins]
    split
    · exact .refl _
    · exact ((ins_perm x l).cons y).trans (.swap x y l)
theorem isort_perm : ∀ (l : List Int), (isort l).Perm l
  | [] => .refl _
  | x :: l => (ins_perm x _).trans ((isort_perm l).cons x)
theorem sortI_isort (l : List Int) : sortI l = isort l :=
  List.Perm.eq_of_pairwise (le := fun a b : Int => a ≤ b) (fun a b _ _ h1 h2 => by omega) (sortI_sorted l) (isort_sorted l) ((List.mergeSort_perm l _).trans (isort_perm l).symm)
theorem once_dd (l : List Int) : once l = dd (isort l) := by unfold once; rw [comp_dd, sortI_isort]
def eAhead (l : Locks) (x : Lock) (k : Nat) : List Int := dd (isort (aheadOf x (l.held ++ l.queue.take k)))
theorem eahead_eq (l : Locks) (x : Lock) (k : Nat) : lAhead l x k = eAhead l x k := once_dd _
def eQ (l : Locks) : List Lock → Nat → Bool
  | [], _ => true
  | y :: ys, k => bif place l.queue y.owner == (k : Int) && decide (((eAhead l y k).length : Int) > 0) then eQ l ys (k + 1) else false
theorem eq_eq (l : Locks) : ∀ (xs : List Lock) (k : Nat), lQ l xs k = eQ l xs k
  | [], k => rfl
  | x :: xs, k => by rw [lQ, eQ, eq_eq l xs]; unfold lQok; rw [eahead_eq]
def eCheck (l : Locks) : Bool :=
  !(decide ((l.held.length : Int) + l.queue.length > 40) || (l.held.any (fun x => !lMay x) || l.queue.any fun x => !lMay x)) && (eQ l l.queue 0 && (singleFrom [] l.held && !l.queue.any fun x => l.held.any (lWeak x)))
theorem echeck_eq (l : Locks) : lCheck l = eCheck l := by unfold lCheck eCheck; rw [eq_eq]
def eWaits (l : Locks) (o : Int) : Bool := eCheck l && decide (place l.queue o ≥ 0)
theorem ewaits_eq (l : Locks) (o : Int) : lWaits l o = eWaits l o := by unfold lWaits eWaits; rw [echeck_eq]
def eBlockers (l : Locks) (o : Int) : List Int := if eWaits l o then (match l.queue[(place l.queue o).toNat]? with | some y => eAhead l y (place l.queue o).toNat | none => []) else []
theorem eblockers_eq (l : Locks) (o : Int) : lBlockers l o = eBlockers l o := by
  unfold lBlockers eBlockers
  rw [ewaits_eq]
  cases l.queue[(place l.queue o).toNat]? with
  | some y => simp only [eahead_eq]
  | none => rfl
def eAsk (l : Locks) (x : Lock) : Locks × Int :=
  if !eCheck l || (!lMay x || eWaits l x.owner) then (l, 1)
  else if l.held.any (fun h => lServes h x) then (l, 0)
  else if decide ((l.held.length : Int) + l.queue.length ≥ 40) then (l, 111)
  else if decide (((eAhead l (lJoined l x) l.queue.length).length : Int) > 0) then (⟨l.held, l.queue ++ [lJoined l x]⟩, 110)
  else (⟨holdL l.held (lJoined l x), l.queue⟩, 0)
theorem eask_eq (l : Locks) (x : Lock) : lAsk l x = eAsk l x := by unfold lAsk eAsk; rw [echeck_eq, ewaits_eq, eahead_eq]
def eStep (s : Locks × List Int) (x : Lock) : Locks × List Int :=
  if decide (((eAhead s.1 x s.1.queue.length).length : Int) > 0) then (⟨s.1.held, s.1.queue ++ [x]⟩, s.2) else (⟨holdL s.1.held x, s.1.queue⟩, s.2 ++ [x.owner])
def eDropAll (l : Locks) (o : Int) : Locks × List Int := (rid o l.queue).foldl eStep (⟨rid o l.held, []⟩, [])
def eDrop (l : Locks) (o : Int) : Locks × List Int :=
  if !eCheck l || (decide (o < 0) || decide (o ≥ 4)) then (l, []) else ((eDropAll l o).1, isort (eDropAll l o).2)
theorem estep_eq : dropStep = eStep := by funext s x; unfold dropStep eStep; rw [eahead_eq]
theorem edrop_eq (l : Locks) (o : Int) : lDrop l o = eDrop l o := by unfold lDrop eDrop dropAll eDropAll; rw [echeck_eq, estep_eq, sortI_isort]
end Go.Proofs.Ve

/- Awake: calls whose answers the document fixes. -/
set_option maxRecDepth 100000
set_option linter.all false
namespace Go.Proofs.Ve
open Go
def pointS (t : Int) (k : List UInt8) : Span := ⟨t, k, k ++ [0], false⟩
theorem c71 (t : Int) (k : List UInt8) (hk : k.length ≤ 1000000) (H : List (List Blk)) : CallEq X H 31 [.d (.int .i64 t), .d (encB k)] (pSpan (pointS t k)) [] := by
  have base : CallEq X H 31 [.d (.int .i64 t), .d (encB k)] (.agg [.d (.int .i64 t), .d (encB k), .row 0 0 (k.length + 1), .d (.bool false)]) [⟨5, 1, rowB (k ++ [0])⟩] := by
    refine callEq_of_body X_ok rfl Tryz.func31 rfl ?_
    conv => whnf
    refine ⟨_, _, c103 k (by omega) _, True.intro, ?_⟩
    conv => whnf
    refine ⟨_, _, c103r k (by omega) _, True.intro, ?_⟩
    conv => whnf
    refine ⟨fun y hy => by simp at hy; subst hy; rfl, ?_⟩
    conv => whnf
    refine ⟨by show k.length = (rowB k).length; simp [rowB], by (first | omega | (dsimp only; omega) | (simp; done) | (simp; omega)), ?_⟩
    conv => whnf
    refine ⟨[2], rfl, ?_, ?_⟩
    all_goals (repeat' (first | exact True.intro | exact rfl | refine And.intro ?_ ?_))
    show _ = rowB (k ++ [0])
    unfold rowB; rw [List.map_append]; rfl
  refine base.freeze 2 ?_
  change PV.agg [.d (.int .i64 t), .d (encB k), .d (.sl (List.take (k.length + 1) (rowB (k ++ [0])))), .d (.bool false)] = _
  rw [List.take_of_length_le (by simp [rowB])]; rfl
def oneL (o : Int) (s : ByteArray) (m : Int) : Lock := ⟨o, false, pointS 0 s.data.toList, m⟩
def smallB (l : Locks) : Bool := Nat.blt l.held.length 100000 && (Nat.blt l.queue.length 100000 && (l.held.all (fun x => Nat.ble x.span.lo.length 1000000 && Nat.ble x.span.hi.length 1000000) && l.queue.all (fun x => Nat.ble x.span.lo.length 1000000 && Nat.ble x.span.hi.length 1000000)))
theorem small_of {l : Locks} (h : smallB l = true) : smallLs l := by
  unfold smallB at h
  simp only [Bool.and_eq_true, List.all_eq_true] at h
  obtain ⟨h1, h2, h3, h4⟩ := h
  exact ⟨by simpa [Nat.blt_eq] using h1, by simpa [Nat.blt_eq] using h2, fun x hx => ⟨Nat.le_of_ble_eq_true (h3 x hx).1, Nat.le_of_ble_eq_true (h3 x hx).2⟩, fun x hx => ⟨Nat.le_of_ble_eq_true (h4 x hx).1, Nat.le_of_ble_eq_true (h4 x hx).2⟩⟩
def smallXB (x : Lock) : Bool := Nat.ble x.span.lo.length 1000000 && Nat.ble x.span.hi.length 1000000
theorem smallX_of {x : Lock} (h : smallXB x = true) : smallX x := by
  unfold smallXB at h
  simp only [Bool.and_eq_true] at h
  exact ⟨Nat.le_of_ble_eq_true h.1, Nat.le_of_ble_eq_true h.2⟩
theorem e26 (l : Locks) (x : Lock) (hs : smallB l = true) (hx : smallXB x = true) (H : List (List Blk)) : CallEq X H 42 [pLocks l, pLock x] (pAskF (eAsk l x)) [] :=
  eask_eq l x ▸ c26 l x (small_of hs) (smallX_of hx) H
theorem e26r (l : Locks) (x : Lock) (hs : smallB l = true) (hx : smallXB x = true) (H : List (List Blk)) : CallEq X H 42 [pLocks l, pLock x] (pAsk (eAsk l x)) [rLocks (eAsk l x).1.held, rLocks (eAsk l x).1.queue] :=
  eask_eq l x ▸ c26r l x (small_of hs) (smallX_of hx) H
theorem e25 (l : Locks) (o : Int) (hs : smallB l = true) (H : List (List Blk)) : CallEq X H 26 [pLocks l, .d (.int .i64 o)] (pDropF (eDrop l o)) [] :=
  edrop_eq l o ▸ c25 l o (small_of hs) H
theorem e23 (l : Locks) (o : Int) (hs : smallB l = true) (H : List (List Blk)) : CallEq X H 17 [pLocks l, .d (.int .i64 o)] (.d (.bool (eWaits l o))) [] :=
  ewaits_eq l o ▸ c23 l o (small_of hs).1 (small_of hs).2.1 H
theorem e17 (l : Locks) (o : Int) (hs : smallB l = true) (H : List (List Blk)) : CallEq X H 62 [pLocks l, .d (.int .i64 o)] (.d (encI (eBlockers l o))) [] :=
  eblockers_eq l o ▸ c17 l o (small_of hs).1 (small_of hs).2.1 H
theorem e19 (l : Locks) (hs : smallB l = true) (H : List (List Blk)) : CallEq X H 32 [pLocks l] (.d (.bool (eCheck l))) [] :=
  echeck_eq l ▸ c19 l (small_of hs).1 (small_of hs).2.1 H
theorem e16 (a b : List Int) (h : Nat.blt a.length 1000000 = true) (H : List (List Blk)) : CallEq X H 13 [.d (encI a), .d (encI b)] (.d (.bool (numbers a b))) [] := c16 a b (by simpa [Nat.blt_eq] using h) H
def k0 : Locks := ⟨[], []⟩
def tA : ByteArray := ⟨#[97]⟩
def tB : ByteArray := ⟨#[98]⟩
def tC : ByteArray := ⟨#[99]⟩
def kA : Locks := (eAsk k0 (oneL 0 tA 5)).1
def kB : Locks := (eAsk kA (oneL 1 tA 3)).1
def kC : Locks := (eAsk kB (oneL 2 tB 5)).1
def zeroL : Lock := ⟨0, false, ⟨0, [], [], false⟩, 0⟩
def k41 : Locks := ⟨List.replicate 41 zeroL, []⟩
def kU : Locks := (eAsk k0 ⟨0, true, ⟨0, [], [], false⟩, 2⟩).1
end Go.Proofs.Ve

/- LockTells: its body tells true. -/
set_option maxRecDepth 100000
set_option linter.all false
namespace Go.Proofs.Ve
open Go
theorem few_le {l : Locks} (h : few l = true) : l.held.length ≤ 60 ∧ l.queue.length ≤ 60 := by
  unfold few at h
  split at h
  · cases h
  · next hn => simp at hn; omega
end Go.Proofs.Ve

/- Same; LockAlone: its body tells true. -/
set_option maxRecDepth 100000
set_option linter.all false
namespace Go.Proofs.Ve
open Go
def eqL (x y : Lock) : Bool := !(!sOne x.span y.span || (x.owner != y.owner || (!(x.whole == y.whole) || x.mode != y.mode)))
def sameLF : List Lock → List Lock → Bool
  | [], _ => true
  | x :: xs, ys => match ys with | [] => true | y :: ys => bif eqL x y then sameLF xs ys else false
theorem sameL_step {l m : List Lock} {k : Nat} {x y : Lock} (h : l[k]? = some x) (h' : m[k]? = some y) : sameLF (l.drop k) (m.drop k) = bif eqL x y then sameLF (l.drop (k + 1)) (m.drop (k + 1)) else false := by
  have hk := (List.getElem?_eq_some_iff.1 h).1
  have hm := (List.getElem?_eq_some_iff.1 h').1
  rw [List.drop_eq_getElem_cons hk, List.drop_eq_getElem_cons hm, (List.getElem?_eq_some_iff.1 h).2, (List.getElem?_eq_some_iff.1 h').2, sameLF]
def sameLs (a b : List Lock) : Bool := if ((a.map cLock).length : Int) != ((b.map cLock).length : Int) then false else sameLF a b
theorem c70 (a b : List Lock) (ha : a.length < 1000000) (H : List (List Blk)) : CallEq X H 30 [.d (encLocks a), .d (encLocks b)] (.d (.bool (sameLs a b))) [] := by
  refine callEq_of_body X_ok rfl Tryz.func30 rfl ?_
  conv => whnf
  refine And.intro (fun h0 => ?_) (fun h0 => ?_)
  · conv => whnf
    refine ⟨[], rfl, ?_, True.intro⟩
    show DV.bool false = .bool (sameLs a b)
    unfold sameLs; rw [if_pos h0]
  · conv => whnf
    have hlen : a.length = b.length := by simp at h0; omega
    have hn : sameLs a b = sameLF a b := by unfold sameLs; rw [h0]; rfl
    refine loopV_of (fun k : Nat => ⟨[.d (encLocks a), .d (encLocks b), .any, .any, .any, .d (.int .i64 k), .any, .any, .any, .any, .any, .any, .any, .any, .any, .any, .any, .any, .any, .any, .any, .any, .any, .any, .any, .any, .any, .any, .any, .any, .any, .any, .any, .any, .any, .any, .any, .any, .any, .any, .any, .any, .any, .any, .any, .any, .any, .any, .any, .any, .any, .any, .any, .any, .any, .any, .any, .any, .any, .any, .any, .any, .any, .any, .any, .any, .any, .any, .any, .any], []⟩)
      (fun k => k ≤ a.length ∧ sameLs a b = sameLF (a.drop k) (b.drop k)) (fun k => a.length - k) 0 [] ⟨Nat.zero_le _, hn⟩ ?_ ?_
    · refine And.intro rfl (And.intro ?_ ?_)
      all_goals (repeat' (first | exact True.intro | exact rfl | refine And.intro ?_ ?_))
    · rintro k ⟨hk, hidx⟩
      conv => whnf
      refine And.intro (fun h_ => ?_) (fun h_ => ?_)
      · conv => whnf
        have hk' : k < a.length := by simpa using h_
        obtain ⟨x, hx⟩ : ∃ x, a[k]? = some x := ⟨_, List.getElem?_eq_getElem hk'⟩
        obtain ⟨y, hy⟩ : ∃ y, b[k]? = some y := ⟨_, List.getElem?_eq_getElem (by omega)⟩
        have hst := sameL_step hx hy
        refine ⟨by omega, cLock x, by simp [hx], rfl, ?_⟩
        conv => whnf
        refine ⟨by omega, cLock y, by simp [hy], rfl, ?_⟩
        conv => whnf
        refine ⟨_, _, c108 x.span y.span _, True.intro, ?_⟩
        conv => whnf
        have no : eqL x y = false → DV.bool false = .bool (sameLs a b) := fun h1 => by rw [hidx, hst, h1]; rfl
        have next : eqL x y = true → sameLs a b = sameLF (a.drop (k + 1)) (b.drop (k + 1)) := fun h1 => by rw [hidx, hst, h1]; rfl
        clear hst hidx hn h0
        have fx : (a.map cLock)[k]? = some (cLock x) := by simp [hx]
        have fy : (b.map cLock)[k]? = some (cLock y) := by simp [hy]
        repeat' (first
          | (refine And.intro (fun _ => ?_) (fun _ => ?_) <;> (conv => whnf))
          | (refine ⟨by omega, cLock x, fx, rfl, ?_⟩; conv => whnf)
          | (refine ⟨by omega, cLock y, fy, rfl, ?_⟩; conv => whnf))
        all_goals (first
          | (refine ⟨[], rfl, no ?_, True.intro⟩; clear no next fx fy hx hy h_ hk hk' hlen ha; unfold eqL; simp_all; done)
          | (intro z hz
             conv => whnf
             rw [wrap_small (by omega) (by omega)] at hz
             subst hz
             refine ⟨k + 1, [], ⟨by omega, next ?_⟩, by omega, And.intro rfl (And.intro ?_ ?_)⟩
             · clear no next fx fy hx hy h_ hk hk' hlen ha; unfold eqL; simp_all; done
             all_goals (repeat' (first | exact True.intro | exact rfl | refine And.intro ?_ ?_))))
      · conv => whnf
        have hk' : k = a.length := by simp at h_; omega
        refine ⟨[], rfl, ?_, True.intro⟩
        show DV.bool true = .bool (sameLs a b)
        rw [hidx, hk', List.drop_length]; rfl
theorem c27 (a b : Locks) (h1 : a.held.length < 1000000) (h2 : a.queue.length < 1000000) (H : List (List Blk)) : CallEq X H 12 [pLocks a, pLocks b] (.d (.bool (sameLs a.held b.held && sameLs a.queue b.queue))) [] := by
  refine callEq_of_body X_ok rfl Tryz.func12 rfl ?_
  conv => whnf
  repeat' (first
    | (refine And.intro (fun h_ => ?_) (fun h_ => ?_) <;> (conv => whnf))
    | (refine ⟨_, _, c70 a.held b.held h1 _, (by first | exact True.intro | exact And.intro rfl flat_nil), ?_⟩; conv => whnf)
    | (refine ⟨_, _, c70 a.queue b.queue h2 _, (by first | exact True.intro | exact And.intro rfl flat_nil), ?_⟩; conv => whnf)
    | (intro z_ hz_; conv => whnf)
    | (refine ⟨[], rfl, ?_, True.intro⟩; (conv => whnf); (first | done | (simp_all only [refP, Bool.not_true, Bool.not_false, Bool.true_and, Bool.false_and, Bool.and_true, Bool.and_false, Bool.true_or, Bool.false_or, Bool.or_true, Bool.or_false, Bool.not_not, Bool.not_eq_true', Bool.not_eq_false', if_true, if_false, Bool.false_eq_true, Bool.true_eq_false, List.length_map]; done)))
    | fail)
theorem eqL_self (x : Lock) : eqL x x = true := by
  unfold eqL sOne
  simp [eqB_eq, cm_self]
theorem sameLF_self : ∀ l : List Lock, sameLF l l = true
  | [] => rfl
  | x :: xs => by rw [sameLF, eqL_self, sameLF_self xs]; rfl
theorem sameLs_self (l : List Lock) : sameLs l l = true := by unfold sameLs; simp [sameLF_self]
end Go.Proofs.Ve

/- Operations: contracts of txn's. -/
set_option maxRecDepth 100000
set_option maxHeartbeats 4000000
set_option linter.all false
namespace Go.Proofs.Ve
open Go
structure Oper where
  kind : Int
  t : Int
  key : List UInt8
  hi : List UInt8
  op : Bool
  val : List UInt8
  n : Int
def cOper (o : Oper) : List DV := [.int .i64 o.kind, .int .i64 o.t, encB o.key, encB o.hi, .bool o.op, encB o.val, .int .i64 o.n]
def pOper (o : Oper) : PV := .agg [.d (.int .i64 o.kind), .d (.int .i64 o.t), .d (encB o.key), .d (encB o.hi), .d (.bool o.op), .d (encB o.val), .d (.int .i64 o.n)]
def smallO (o : Oper) : Prop := o.key.length ≤ 100 ∧ o.hi.length ≤ 100 ∧ o.val.length ≤ 100
def oSmall (o : Oper) : Bool := decide ((o.key.length : Int) ≤ 100) && (decide ((o.hi.length : Int) ≤ 100) && decide ((o.val.length : Int) ≤ 100))
theorem c38 (o : Oper) (H : List (List Blk)) : CallEq X H 6 [pOper o] (.d (.bool (oSmall o))) [] := by
  unfold oSmall
  refine callEq_of_body X_ok rfl Tryz.func6 rfl ?_
  conv => whnf
  repeat' (first
    | (refine And.intro (fun h_ => ?_) (fun h_ => ?_) <;> (conv => whnf))
    | (intro z_ hz_; conv => whnf)
    | (refine ⟨[], rfl, ?_, True.intro⟩; (conv => whnf); (first | done | (simp_all only [refP, Bool.not_true, Bool.not_false, Bool.true_and, Bool.false_and, Bool.and_true, Bool.and_false, Bool.true_or, Bool.false_or, Bool.or_true, Bool.or_false, Bool.not_not, Bool.not_eq_true', Bool.not_eq_false', if_true, if_false, Bool.false_eq_true, Bool.true_eq_false, List.length_map]; done)))
    | fail)
def oNum (o : Oper) : Bool := if o.kind == 8 then o.n == 3 || o.n == 5 else if o.kind == 11 then o.n == 0 || o.n == 1 else if o.kind == 7 then decide (o.n ≥ 0) && decide (o.n < 4) else true
def oKnown (o : Oper) : Bool := (decide (o.kind ≥ 1) && decide (o.kind ≤ 11)) && decide (o.t ≥ 0) && decide (o.t < 4)
def oCheck (o : Oper) : Bool := oNum o && oKnown o && !decide ((o.key.length : Int) > 16) && !decide ((o.hi.length : Int) > 16) && !(o.op && decide ((o.hi.length : Int) > 0)) && !decide ((o.val.length : Int) > 32)
def errI (b : Bool) : Int := if b then 0 else 1
theorem c112 (o : Oper) (H : List (List Blk)) : CallEq X H 44 [pOper o] (.d (.int .i64 (errI (oCheck o)))) [] := by
  unfold errI oCheck oNum oKnown
  refine callEq_of_body X_ok rfl Tryz.func44 rfl ?_
  conv => whnf
  repeat' (first
    | (refine And.intro (fun h_ => ?_) (fun h_ => ?_) <;> (conv => whnf))
    | (intro z_ hz_; conv => whnf)
    | (refine ⟨[], rfl, ?_, True.intro⟩; (conv => whnf); (first | done | (simp_all only [refP, Bool.not_true, Bool.not_false, Bool.true_and, Bool.false_and, Bool.and_true, Bool.and_false, Bool.true_or, Bool.false_or, Bool.or_true, Bool.or_false, Bool.not_not, Bool.not_eq_true', Bool.not_eq_false', if_true, if_false, Bool.false_eq_true, Bool.true_eq_false, List.length_map]; done)))
    | fail)
def rOBad (o : Oper) : Bool := decide (o.kind < 1) || decide (o.kind > 11) || decide (o.t < 0) || decide (o.t > 3) || decide ((o.key.length : Int) > 16) || decide ((o.hi.length : Int) > 16) || (o.op && decide ((o.hi.length : Int) > 0)) || decide ((o.val.length : Int) > 32)
def rOBadN (o : Oper) : Bool := (o.kind == 8 && (o.n != 3 && o.n != 5)) || (o.kind == 11 && (o.n != 0 && o.n != 1)) || (o.kind == 7 && (decide (o.n < 0) || decide (o.n > 3)))
def rOCheck (o : Oper) : Bool := !rOBad o && !rOBadN o
theorem c40 (o : Oper) (H : List (List Blk)) : CallEq X H 48 [pOper o] (.d (.int .i64 (errI (rOCheck o)))) [] := by
  unfold errI rOCheck rOBad rOBadN
  refine callEq_of_body X_ok rfl Tryz.func48 rfl ?_
  conv => whnf
  repeat' (first
    | (refine And.intro (fun h_ => ?_) (fun h_ => ?_) <;> (conv => whnf))
    | (intro z_ hz_; conv => whnf)
    | (refine ⟨[], rfl, ?_, True.intro⟩; (conv => whnf); (first | done | (simp_all only [refP, Bool.not_true, Bool.not_false, Bool.true_and, Bool.false_and, Bool.and_true, Bool.and_false, Bool.true_or, Bool.false_or, Bool.or_true, Bool.or_false, Bool.not_not, Bool.not_eq_true', Bool.not_eq_false', if_true, if_false, Bool.false_eq_true, Bool.true_eq_false, List.length_map]; done)))
    | fail)
theorem ocheck_eq (o : Oper) : rOCheck o = oCheck o := by
  obtain ⟨k, t, key, hi, op, val, n⟩ := o
  rw [Bool.eq_iff_iff]
  unfold rOCheck oCheck rOBad rOBadN oNum oKnown
  dsimp only
  generalize (hi.length : Int) = c
  generalize (key.length : Int) = d
  generalize (val.length : Int) = e
  by_cases h8 : k = 8
  · subst h8; cases op <;> simp <;> omega
  · by_cases h11 : k = 11
    · subst h11; cases op <;> simp <;> omega
    · by_cases h7 : k = 7
      · subst h7; cases op <;> simp <;> omega
      · cases op <;> simp [h8, h11, h7] <;> omega
def spanO (o : Oper) : Span := ⟨o.t, o.key, o.hi, o.op⟩
theorem c128 (o : Oper) (ho : smallO o) (H : List (List Blk)) : CallEq X H 90 [pOper o] (pSpan (spanO o)) [] := by
  refine callEq_of_body X_ok rfl Tryz.func90 rfl ?_
  conv => whnf
  refine ⟨_, _, c103 o.key (by have := ho.1; omega) _, True.intro, ?_⟩
  conv => whnf
  refine ⟨_, _, c103 o.hi (by have := ho.2.1; omega) _, True.intro, ?_⟩
  conv => whnf
  refine ⟨[], rfl, ?_, ?_⟩
  all_goals (repeat' (first | exact True.intro | exact rfl | refine And.intro ?_ ?_))
def zeroS : Span := ⟨0, [], [], false⟩
def oAbout (o : Oper) : Span × Int := if o.kind == 1 then (pointS o.t o.key, 3) else if o.kind == 2 || o.kind == 3 || o.kind == 4 then (pointS o.t o.key, 5) else if o.kind == 5 then (spanO o, 3) else (zeroS, 0)
theorem c111 (o : Oper) (ho : smallO o) (H : List (List Blk)) : CallEq X H 43 [pOper o] (.tuple [pSpan (oAbout o).1, .d (.int .i64 (oAbout o).2)]) [] := by
  have hp := c71 o.t o.key (by have := ho.1; omega)
  have hs := c128 o ho
  refine callEq_of_body X_ok rfl Tryz.func43 rfl ?_
  conv => whnf
  repeat' (first
    | (refine And.intro (fun h_ => ?_) (fun h_ => ?_) <;> (conv => whnf))
    | (refine ⟨_, _, hp _, True.intro, ?_⟩; conv => whnf)
    | (refine ⟨_, _, hs _, True.intro, ?_⟩; conv => whnf)
    | (exfalso; simp_all; done)
    | ((have e : oAbout o = (pointS o.t o.key, 3) := by simp_all [oAbout]); rw [e]; refine ⟨[], rfl, ?_, True.intro⟩; (repeat' (first | exact True.intro | exact rfl | refine And.intro ?_ ?_)); done)
    | ((have e : oAbout o = (pointS o.t o.key, 5) := by simp_all [oAbout]); rw [e]; refine ⟨[], rfl, ?_, True.intro⟩; (repeat' (first | exact True.intro | exact rfl | refine And.intro ?_ ?_)); done)
    | ((have e : oAbout o = (spanO o, 3) := by simp_all [oAbout]); rw [e]; refine ⟨[], rfl, ?_, True.intro⟩; (repeat' (first | exact True.intro | exact rfl | refine And.intro ?_ ?_)); done)
    | ((have e : oAbout o = (zeroS, 0) := by simp_all [oAbout]); rw [e]; refine ⟨[], rfl, ?_, True.intro⟩; (repeat' (first | exact True.intro | exact rfl | refine And.intro ?_ ?_)); done)
    | fail)
end Go.Proofs.Ve

/- The locks that an operation needs; the closures of steps. -/
set_option maxRecDepth 100000
set_option maxHeartbeats 4000000
set_option linter.all false
namespace Go.Proofs.Ve
open Go
def wholeL (o : Oper) (w m : Int) : Lock := ⟨w, true, ⟨o.t, [], [], false⟩, m⟩
def oLocks (o : Oper) (w : Int) : List Lock :=
  if (errI (oCheck o) != 0 || ((oAbout o).2 == 0 && o.kind != 8)) then [] else if o.kind == 8 then [wholeL o w o.n] else if sEmpty (oAbout o).1 then [wholeL o w (mAbove (oAbout o).2)] else [wholeL o w (mAbove (oAbout o).2), ⟨w, false, (oAbout o).1, (oAbout o).2⟩]
theorem c79 (o : Oper) (w : Int) (ho : smallO o) (H : List (List Blk)) : CallEq X H 20 [pOper o, .d (.int .i64 w)] (.d (encLocks (oLocks o w))) [] := by
  have h111 := c111 o ho
  have h112 := c112 o
  generalize hx : (oAbout o).1 = x at h111
  generalize hm : (oAbout o).2 = a at h111
  have h113 := c113 a
  refine callEq_of_body X_ok rfl Tryz.func20 rfl ?_
  conv => whnf
  repeat' (first
    | (refine And.intro (fun h_ => ?_) (fun h_ => ?_) <;> (conv => whnf))
    | (refine ⟨_, _, h111 _, True.intro, ?_⟩; conv => whnf)
    | (refine ⟨_, _, h112 _, True.intro, ?_⟩; conv => whnf)
    | (refine ⟨_, _, h113 _, True.intro, ?_⟩; conv => whnf)
    | (refine ⟨_, _, c88 x _, True.intro, ?_⟩; conv => whnf)
    | ((have e : oLocks o w = [] := by simp_all [oLocks]); rw [e]; refine ⟨[], rfl, ?_, True.intro⟩; (repeat' (first | exact True.intro | exact rfl | refine And.intro ?_ ?_)); done)
    | ((have e : oLocks o w = [wholeL o w o.n] := by simp_all [oLocks]); rw [e]; refine ⟨[], rfl, ?_, True.intro⟩; (repeat' (first | exact True.intro | exact rfl | refine And.intro ?_ ?_)); done)
    | ((have e : oLocks o w = [wholeL o w (mAbove a)] := by simp_all [oLocks]); rw [e]; refine ⟨[], rfl, ?_, True.intro⟩; (repeat' (first | exact True.intro | exact rfl | refine And.intro ?_ ?_)); done)
    | ((have e : oLocks o w = [wholeL o w (mAbove a), ⟨w, false, x, a⟩] := by simp_all [oLocks]); rw [e]; refine ⟨[], rfl, ?_, True.intro⟩; (repeat' (first | exact True.intro | exact rfl | refine And.intro ?_ ?_)); done)
    | fail)
end Go.Proofs.Ve

/- Steps: locks, xs one behind the other is asked for. -/
set_option maxRecDepth 100000
set_option maxHeartbeats 4000000
set_option linter.all false
namespace Go.Proofs.Ve
open Go
def yLocks (l : Locks) : YV := .agg [encLocks l.held, encLocks l.queue]
def stepsY : Locks → List Lock → List (List YV)
  | _, [] => []
  | l, x :: xs => [yLocks (lAsk l x).1, .one (.int .i64 (lAsk l x).2)] :: stepsY (lAsk l x).1 xs
def aft (l : Locks) (xs : List Lock) : Locks := xs.foldl (fun l x => (lAsk l x).1) l
theorem stepsY_len : ∀ (l : Locks) (xs : List Lock), (stepsY l xs).length = xs.length
  | _, [] => rfl
  | l, x :: xs => by simp [stepsY, stepsY_len]
theorem aft_snoc {l : Locks} {xs : List Lock} {k : Nat} {x : Lock} (h : xs[k]? = some x) : aft l (xs.take (k + 1)) = (lAsk (aft l (xs.take k)) x).1 := by
  unfold aft; rw [take_snoc' h, List.foldl_append]; rfl
theorem stepsY_get : ∀ {l : Locks} {xs : List Lock} {k : Nat} {x : Lock}, xs[k]? = some x → (stepsY l xs)[k]? = some [yLocks (lAsk (aft l (xs.take k)) x).1, .one (.int .i64 (lAsk (aft l (xs.take k)) x).2)]
  | l, [], k, x, h => by simp at h
  | l, y :: xs, 0, x, h => by simp at h; subst h; rfl
  | l, y :: xs, k + 1, x, h => by
    have := stepsY_get (l := (lAsk l y).1) (xs := xs) (k := k) (x := x) (by simpa using h)
    simpa [stepsY, aft] using this
def stepsG (l : Locks) (xs : List Lock) : List RowB := [⟨0, 0, [[encLocks xs]]⟩, ⟨0, 0, [[encLocks l.held, encLocks l.queue]]⟩]
def bAsks (xs : List Lock) : Blk := .box [.d (encLocks xs)]
theorem i110 (l : Locks) (xs : List Lock) (hl : xs.length < 100000) (hs : ∀ k x, xs[k]? = some x → smallLs (aft l (xs.take k)) ∧ smallX x) : IterEq X 41 (stepsG l xs) [.ptr 0 0 0, .ptr 0 1 0] (stepsY l xs) := by
  refine iterEq_of_body X_ok rfl Tryz.func41 rfl rfl ?_
  intro Y hP hxs
  conv => whnf
  refine loopV_of (fun k : Nat => ⟨[.yld Y, .ptr 0 0 0, .ptr 0 1 0, .any, .any, .any, .any, .any, .d (encLocks xs), .d (.int .i64 (xs.map cLock).length), .d (.int .i64 k), .any, .any, .any, .any, .any, .any, .any, .any, .any, .any, .any, .any, .any, .any, .any, .any], [bAsks xs, bLocks (aft l (xs.take k)), .gen Y (some k)]⟩)
    (fun k => k ≤ xs.length) (fun k => xs.length - k) 0 [0, 1, 2] (Nat.zero_le _) ?_ ?_
  · refine And.intro rfl (And.intro ?_ ?_)
    all_goals (repeat' (first | exact True.intro | exact rfl | refine And.intro ?_ ?_))
  · intro k hk
    conv => whnf
    refine And.intro (fun h_ => ?_) (fun h_ => ?_)
    · conv => whnf
      have hk' : k < xs.length := by simpa using h_
      obtain ⟨x, hx⟩ : ∃ x, xs[k]? = some x := ⟨_, List.getElem?_eq_getElem hk'⟩
      obtain ⟨q1, q2⟩ := hs k x hx
      have hy := stepsY_get (l := l) hx
      have ha := aft_snoc (l := l) hx
      have ask := c26 (aft l (xs.take k)) x q1 q2
      refine ⟨by omega, cLock x, by simp [hx], rfl, ?_⟩
      conv => whnf
      refine ⟨_, _, ask _, True.intro, ?_⟩
      conv => whnf
      refine ⟨rfl, hP, by rw [hxs]; exact hy, ?_, ?_⟩
      · conv => whnf
        intro z hz
        conv => whnf
        rw [wrap_small (by omega) (by omega)] at hz
        subst hz
        refine ⟨k + 1, [0, 1, 2], by omega, by omega, And.intro rfl (And.intro ?_ ?_)⟩
        all_goals (try rw [ha])
        all_goals (repeat' (first | exact True.intro | exact rfl | refine And.intro ?_ ?_))
      · conv => whnf
        exact ⟨rfl, True.intro⟩
    · conv => whnf
      have hk' : k = xs.length := by simp at h_; omega
      exact ⟨rfl, by rw [hxs, stepsY_len]; exact hk'⟩
theorem c78 (l : Locks) (xs : List Lock) (H : List (List Blk)) : CallEq X H 19 [pLocks l, .d (encLocks xs)] (.func (.func 41) [] [.ptr 0 0 0, .ptr 0 1 0]) (stepsG l xs) := by
  refine callEq_of_body X_ok rfl Tryz.func19 rfl ?_
  conv => whnf
  refine ⟨[1, 0], rfl, ?_, ?_⟩
  all_goals (repeat' (first | exact True.intro | exact rfl | refine And.intro ?_ ?_))
theorem c77 (l : Locks) (hs : smallLs l) (H : List (List Blk)) : CallEq X H 18 [pLocks l] (pLocks (lDrop l (-1)).1) [] := by
  have h25 := c25 l (-1) hs
  refine callEq_of_body X_ok rfl Tryz.func18 rfl ?_
  conv => whnf
  refine ⟨_, _, h25 _, True.intro, ?_⟩
  conv => whnf
  refine ⟨[], rfl, ?_, ?_⟩
  all_goals (repeat' (first | exact True.intro | exact rfl | refine And.intro ?_ ?_))
end Go.Proofs.Ve

/- Hold. -/
set_option maxRecDepth 100000
set_option maxHeartbeats 4000000
set_option linter.all false
namespace Go.Proofs.Ve
open Go
def holdF : Locks → List Lock → Locks × Int
  | l, [] => (l, 0)
  | l, x :: xs => if (lAsk l x).2 != 0 then lAsk l x else holdF (lAsk l x).1 xs
def lHold (l : Locks) (w : Int) (o : Oper) : Locks × Int := holdF (lDrop l (-1)).1 (oLocks o w)
theorem holdF_step {l : Locks} {xs : List Lock} {k : Nat} {x : Lock} (h : xs[k]? = some x) : holdF l (xs.drop k) = if (lAsk l x).2 != 0 then lAsk l x else holdF (lAsk l x).1 (xs.drop (k + 1)) := by
  obtain ⟨hk, rfl⟩ := List.getElem?_eq_some_iff.1 h
  rw [List.drop_eq_getElem_cons hk]; rfl
def pHold (r : Locks × Int) : PV := .tuple [pLocks r.1, .d (.int .i64 r.2)]
theorem c39 (l : Locks) (w : Int) (o : Oper) (ho : smallO o) (hs : smallLs l) (hl : (oLocks o w).length < 100000) (hq : ∀ k x, (oLocks o w)[k]? = some x → smallLs (aft (lDrop l (-1)).1 ((oLocks o w).take k)) ∧ smallX x) (H : List (List Blk)) :
    CallEq X H 8 [pLocks l, .d (.int .i64 w), pOper o] (pHold (lHold l w o)) [] := by
  have h77 := c77 l hs
  have h79 := c79 o w ho
  have hi := i110 (lDrop l (-1)).1 (oLocks o w) hl hq
  unfold lHold
  generalize (lDrop l (-1)).1 = l0 at h77 hq hi ⊢
  generalize oLocks o w = xs at h79 hl hq hi ⊢
  have h78 := c78 l0 xs
  refine callEq_of_body X_ok rfl Tryz.func8 rfl ?_
  conv => whnf
  refine ⟨_, _, h77 _, True.intro, ?_⟩
  conv => whnf
  refine ⟨_, _, h79 _, True.intro, ?_⟩
  conv => whnf
  refine ⟨_, _, h78 _, True.intro, ?_⟩
  conv => whnf
  refine rangeV_of (stepsY l0 xs) [.any, .any, .any, .any, .any, .any, .ptr 0 0 0, .ptr 0 1 0, .ptr 0 2 0, .any, .any, .any, .any, .any, .any, .any, .any, .any, .any, .any, .any, .any, .any, .any, .any, .any] (fun k => [.box [.any, .any], .box [.any], bLocks (aft l0 (xs.take k))]) (fun k => k ≤ xs.length ∧ holdF l0 xs = holdF (aft l0 (xs.take k)) (xs.drop k)) [2, 3, 4] hi ⟨Nat.zero_le _, rfl⟩ ?_ ?_ ?_
  · refine And.intro rfl (And.intro ?_ ?_)
    all_goals (repeat' (first | exact True.intro | exact rfl | refine And.intro ?_ ?_))
  · rintro k y hy ⟨hk, hI⟩
    have hk' : k < xs.length := by have := (List.getElem?_eq_some_iff.1 hy).1; rwa [stepsY_len] at this
    obtain ⟨x, hx⟩ : ∃ x, xs[k]? = some x := ⟨_, List.getElem?_eq_getElem hk'⟩
    rw [stepsY_get hx] at hy
    cases hy
    have ha := aft_snoc (l := l0) hx
    have hst := holdF_step (l := aft l0 (xs.take k)) hx
    rw [hst, ← ha] at hI
    generalize lAsk (aft l0 (xs.take k)) x = r at ha hI ⊢
    conv => whnf
    refine And.intro (fun h => ?_) (fun h => ?_)
    · conv => whnf
      rw [h] at hI
      refine ⟨[], rfl, ?_, True.intro⟩
      rw [hI]
      (repeat' (first | exact True.intro | exact rfl | refine And.intro ?_ ?_))
    · conv => whnf
      rw [h] at hI
      refine ⟨⟨hk', hI⟩, [0, 1, 2], And.intro rfl (And.intro ?_ ?_)⟩
      all_goals (try rw [ha])
      all_goals (repeat' (first | exact True.intro | exact rfl | refine And.intro ?_ ?_))
  · rintro ⟨_, hI⟩
    rw [stepsY_len] at hI ⊢
    rw [List.drop_length] at hI
    conv => whnf
    refine ⟨[], rfl, ?_, True.intro⟩
    rw [hI]
    (repeat' (first | exact True.intro | exact rfl | refine And.intro ?_ ?_))
end Go.Proofs.Ve

/- Waiting: whom ways lead to, who is stuck (the code's). -/
set_option maxRecDepth 100000
set_option maxHeartbeats 4000000
set_option linter.all false
namespace Go.Proofs.Ve
open Go
def cEdge (e : Int × Int) : List DV := [.int .i64 e.1, .int .i64 e.2]
def encE (l : List (Int × Int)) : DV := .sl (l.map cEdge)
abbrev Mat := Nat → Nat → Bool
def matC (w : Mat) : List PV := [.d (.bool (w 0 0)), .d (.bool (w 0 1)), .d (.bool (w 0 2)), .d (.bool (w 0 3)), .d (.bool (w 1 0)), .d (.bool (w 1 1)), .d (.bool (w 1 2)), .d (.bool (w 1 3)), .d (.bool (w 2 0)), .d (.bool (w 2 1)), .d (.bool (w 2 2)), .d (.bool (w 2 3)), .d (.bool (w 3 0)), .d (.bool (w 3 1)), .d (.bool (w 3 2)), .d (.bool (w 3 3))]
def upd (w : Mat) (i j : Nat) (b : Bool) : Mat := fun a c => bif Nat.beq a i && Nat.beq c j then b else w a c
def addE (w : Mat) (e : Int × Int) : Mat := bif wIs e.1 && wIs e.2 then upd w e.1.toNat e.2.toNat true else w
def edgesM (l : List (Int × Int)) : Mat := l.foldl addE (fun _ _ => false)
def stepW (o f t : Nat) (w : Mat) : Mat := upd w f t (w f t || (w f o && w o t))
def rowW (o f : Nat) : Nat → Mat → Mat
  | 0, w => w
  | t + 1, w => stepW o f t (rowW o f t w)
def colW (o : Nat) : Nat → Mat → Mat
  | 0, w => w
  | f + 1, w => rowW o f 4 (colW o f w)
def allW : Nat → Mat → Mat
  | 0, w => w
  | o + 1, w => colW o 4 (allW o w)
def waysM (l : List (Int × Int)) : Mat := allW 4 (edgesM l)
theorem wIs_cases {n : Int} (h : wIs n = true) : n = 0 ∨ n = 1 ∨ n = 2 ∨ n = 3 := by unfold wIs at h; simp at h; omega
theorem c74 (l : List (Int × Int)) (hl : l.length < 100000) (H : List (List Blk)) : CallEq X H 95 [.d (encE l)] (.agg (matC (waysM l))) [] := by
  refine callEq_of_body X_ok rfl Tryz.func95 rfl ?_
  conv => whnf
  refine loopV_of (fun k : Nat => ⟨[.any, .any, .ptr 0 0 0, .any, .any, .any, .any, .any, .d (encE l), .d (.int .i64 (l.map cEdge).length), .d (.int .i64 k), .any, .any, .any, .any, .any, .any, .any, .any, .any, .any, .any, .any, .any, .any, .any, .any, .any, .any, .any, .any, .any, .any, .any, .any, .any, .any, .any, .any, .any, .any, .any, .any, .any, .any, .any, .any, .any, .any, .any, .any, .any, .any, .any, .any, .any, .any, .any, .any, .any, .any, .any, .any, .any, .any], [.box (matC ((l.take k).foldl addE (fun _ _ => false)))]⟩)
    (fun k => k ≤ l.length) (fun k => l.length - k) 0 [0] (Nat.zero_le _) ?_ ?_
  · refine And.intro rfl (And.intro ?_ ?_)
    all_goals (repeat' (first | exact True.intro | exact rfl | refine And.intro ?_ ?_))
  · intro k hk
    conv => whnf
    refine And.intro (fun h_ => ?_) (fun h_ => ?_)
    · conv => whnf
      have hk' : k < l.length := by simpa using h_
      obtain ⟨⟨a, b⟩, he⟩ : ∃ e, l[k]? = some e := ⟨_, List.getElem?_eq_getElem hk'⟩
      have fe : (l.map cEdge)[k]? = some (cEdge (a, b)) := by simp [he]
      have hst := fold_snoc (f := addE) (b := fun _ _ => false) he
      generalize hw : (l.take k).foldl addE (fun _ _ => false) = w at hst ⊢
      have next : ∀ w', addE w (a, b) = w' → (l.take (k + 1)).foldl addE (fun _ _ => false) = w' := fun w' h => hst.trans h
      clear hst
      refine ⟨by omega, cEdge (a, b), fe, rfl, ?_⟩
      conv => whnf
      refine ⟨by decide, by decide, 0, rfl, ?_⟩
      conv => whnf
      refine ⟨_, _, c109 a _, True.intro, ?_⟩
      conv => whnf
      refine And.intro (fun q1 => ?_) (fun q1 => ?_) <;> (conv => whnf)
      · refine ⟨by decide, by decide, 1, rfl, ?_⟩
        conv => whnf
        refine ⟨_, _, c109 b _, True.intro, ?_⟩
        conv => whnf
        refine And.intro (fun q2 => ?_) (fun q2 => ?_) <;> (conv => whnf)
        · refine ⟨by decide, by decide, 0, rfl, ?_⟩
          conv => whnf
          refine ⟨by decide, by decide, 1, rfl, ?_⟩
          conv => whnf
          rcases wIs_cases q1 with rfl | rfl | rfl | rfl <;> rcases wIs_cases q2 with rfl | rfl | rfl | rfl
          · refine ⟨by decide, by decide, 0, rfl, ?_⟩
            conv => whnf
            refine ⟨by decide, by decide, 0, rfl, ?_⟩
            conv => whnf
            intro z hz
            conv => whnf
            rw [wrap_small (by omega) (by omega)] at hz
            subst hz
            refine ⟨k + 1, [0], by omega, by omega, ?_⟩
            rw [next _ rfl]
            refine And.intro rfl (And.intro ?_ ?_)
            all_goals (repeat' (first | exact True.intro | exact rfl | refine And.intro ?_ ?_))
          · refine ⟨by decide, by decide, 0, rfl, ?_⟩
            conv => whnf
            refine ⟨by decide, by decide, 1, rfl, ?_⟩
            conv => whnf
            intro z hz
            conv => whnf
            rw [wrap_small (by omega) (by omega)] at hz
            subst hz
            refine ⟨k + 1, [0], by omega, by omega, ?_⟩
            rw [next _ rfl]
            refine And.intro rfl (And.intro ?_ ?_)
            all_goals (repeat' (first | exact True.intro | exact rfl | refine And.intro ?_ ?_))
          · refine ⟨by decide, by decide, 0, rfl, ?_⟩
            conv => whnf
            refine ⟨by decide, by decide, 2, rfl, ?_⟩
            conv => whnf
            intro z hz
            conv => whnf
            rw [wrap_small (by omega) (by omega)] at hz
            subst hz
            refine ⟨k + 1, [0], by omega, by omega, ?_⟩
            rw [next _ rfl]
            refine And.intro rfl (And.intro ?_ ?_)
            all_goals (repeat' (first | exact True.intro | exact rfl | refine And.intro ?_ ?_))
          · refine ⟨by decide, by decide, 0, rfl, ?_⟩
            conv => whnf
            refine ⟨by decide, by decide, 3, rfl, ?_⟩
            conv => whnf
            intro z hz
            conv => whnf
            rw [wrap_small (by omega) (by omega)] at hz
            subst hz
            refine ⟨k + 1, [0], by omega, by omega, ?_⟩
            rw [next _ rfl]
            refine And.intro rfl (And.intro ?_ ?_)
            all_goals (repeat' (first | exact True.intro | exact rfl | refine And.intro ?_ ?_))
          · refine ⟨by decide, by decide, 1, rfl, ?_⟩
            conv => whnf
            refine ⟨by decide, by decide, 0, rfl, ?_⟩
            conv => whnf
            intro z hz
            conv => whnf
            rw [wrap_small (by omega) (by omega)] at hz
            subst hz
            refine ⟨k + 1, [0], by omega, by omega, ?_⟩
            rw [next _ rfl]
            refine And.intro rfl (And.intro ?_ ?_)
            all_goals (repeat' (first | exact True.intro | exact rfl | refine And.intro ?_ ?_))
          · refine ⟨by decide, by decide, 1, rfl, ?_⟩
            conv => whnf
            refine ⟨by decide, by decide, 1, rfl, ?_⟩
            conv => whnf
            intro z hz
            conv => whnf
            rw [wrap_small (by omega) (by omega)] at hz
            subst hz
            refine ⟨k + 1, [0], by omega, by omega, ?_⟩
            rw [next _ rfl]
            refine And.intro rfl (And.intro ?_ ?_)
            all_goals (repeat' (first | exact True.intro | exact rfl | refine And.intro ?_ ?_))
          · refine ⟨by decide, by decide, 1, rfl, ?_⟩
            conv => whnf
            refine ⟨by decide, by decide, 2, rfl, ?_⟩
            conv => whnf
            intro z hz
            conv => whnf
            rw [wrap_small (by omega) (by omega)] at hz
            subst hz
            refine ⟨k + 1, [0], by omega, by omega, ?_⟩
            rw [next _ rfl]
            refine And.intro rfl (And.intro ?_ ?_)
            all_goals (repeat' (first | exact True.intro | exact rfl | refine And.intro ?_ ?_))
          · refine ⟨by decide, by decide, 1, rfl, ?_⟩
            conv => whnf
            refine ⟨by decide, by decide, 3, rfl, ?_⟩
            conv => whnf
            intro z hz
            conv => whnf
            rw [wrap_small (by omega) (by omega)] at hz
            subst hz
            refine ⟨k + 1, [0], by omega, by omega, ?_⟩
            rw [next _ rfl]
            refine And.intro rfl (And.intro ?_ ?_)
            all_goals (repeat' (first | exact True.intro | exact rfl | refine And.intro ?_ ?_))
          · refine ⟨by decide, by decide, 2, rfl, ?_⟩
            conv => whnf
            refine ⟨by decide, by decide, 0, rfl, ?_⟩
            conv => whnf
            intro z hz
            conv => whnf
            rw [wrap_small (by omega) (by omega)] at hz
            subst hz
            refine ⟨k + 1, [0], by omega, by omega, ?_⟩
            rw [next _ rfl]
            refine And.intro rfl (And.intro ?_ ?_)
            all_goals (repeat' (first | exact True.intro | exact rfl | refine And.intro ?_ ?_))
          · refine ⟨by decide, by decide, 2, rfl, ?_⟩
            conv => whnf
            refine ⟨by decide, by decide, 1, rfl, ?_⟩
            conv => whnf
            intro z hz
            conv => whnf
            rw [wrap_small (by omega) (by omega)] at hz
            subst hz
            refine ⟨k + 1, [0], by omega, by omega, ?_⟩
            rw [next _ rfl]
            refine And.intro rfl (And.intro ?_ ?_)
            all_goals (repeat' (first | exact True.intro | exact rfl | refine And.intro ?_ ?_))
          · refine ⟨by decide, by decide, 2, rfl, ?_⟩
            conv => whnf
            refine ⟨by decide, by decide, 2, rfl, ?_⟩
            conv => whnf
            intro z hz
            conv => whnf
            rw [wrap_small (by omega) (by omega)] at hz
            subst hz
            refine ⟨k + 1, [0], by omega, by omega, ?_⟩
            rw [next _ rfl]
            refine And.intro rfl (And.intro ?_ ?_)
            all_goals (repeat' (first | exact True.intro | exact rfl | refine And.intro ?_ ?_))
          · refine ⟨by decide, by decide, 2, rfl, ?_⟩
            conv => whnf
            refine ⟨by decide, by decide, 3, rfl, ?_⟩
            conv => whnf
            intro z hz
            conv => whnf
            rw [wrap_small (by omega) (by omega)] at hz
            subst hz
            refine ⟨k + 1, [0], by omega, by omega, ?_⟩
            rw [next _ rfl]
            refine And.intro rfl (And.intro ?_ ?_)
            all_goals (repeat' (first | exact True.intro | exact rfl | refine And.intro ?_ ?_))
          · refine ⟨by decide, by decide, 3, rfl, ?_⟩
            conv => whnf
            refine ⟨by decide, by decide, 0, rfl, ?_⟩
            conv => whnf
            intro z hz
            conv => whnf
            rw [wrap_small (by omega) (by omega)] at hz
            subst hz
            refine ⟨k + 1, [0], by omega, by omega, ?_⟩
            rw [next _ rfl]
            refine And.intro rfl (And.intro ?_ ?_)
            all_goals (repeat' (first | exact True.intro | exact rfl | refine And.intro ?_ ?_))
          · refine ⟨by decide, by decide, 3, rfl, ?_⟩
            conv => whnf
            refine ⟨by decide, by decide, 1, rfl, ?_⟩
            conv => whnf
            intro z hz
            conv => whnf
            rw [wrap_small (by omega) (by omega)] at hz
            subst hz
            refine ⟨k + 1, [0], by omega, by omega, ?_⟩
            rw [next _ rfl]
            refine And.intro rfl (And.intro ?_ ?_)
            all_goals (repeat' (first | exact True.intro | exact rfl | refine And.intro ?_ ?_))
          · refine ⟨by decide, by decide, 3, rfl, ?_⟩
            conv => whnf
            refine ⟨by decide, by decide, 2, rfl, ?_⟩
            conv => whnf
            intro z hz
            conv => whnf
            rw [wrap_small (by omega) (by omega)] at hz
            subst hz
            refine ⟨k + 1, [0], by omega, by omega, ?_⟩
            rw [next _ rfl]
            refine And.intro rfl (And.intro ?_ ?_)
            all_goals (repeat' (first | exact True.intro | exact rfl | refine And.intro ?_ ?_))
          · refine ⟨by decide, by decide, 3, rfl, ?_⟩
            conv => whnf
            refine ⟨by decide, by decide, 3, rfl, ?_⟩
            conv => whnf
            intro z hz
            conv => whnf
            rw [wrap_small (by omega) (by omega)] at hz
            subst hz
            refine ⟨k + 1, [0], by omega, by omega, ?_⟩
            rw [next _ rfl]
            refine And.intro rfl (And.intro ?_ ?_)
            all_goals (repeat' (first | exact True.intro | exact rfl | refine And.intro ?_ ?_))
        · intro z hz
          conv => whnf
          rw [wrap_small (by omega) (by omega)] at hz
          subst hz
          refine ⟨k + 1, [0], by omega, by omega, ?_⟩
          rw [next w (by show (bif wIs a && wIs b then _ else w) = w; rw [q2, Bool.and_false]; rfl)]
          refine And.intro rfl (And.intro ?_ ?_)
          all_goals (repeat' (first | exact True.intro | exact rfl | refine And.intro ?_ ?_))
      · intro z hz
        conv => whnf
        rw [wrap_small (by omega) (by omega)] at hz
        subst hz
        refine ⟨k + 1, [0], by omega, by omega, ?_⟩
        rw [next w (by show (bif wIs a && wIs b then _ else w) = w; rw [q1]; rfl)]
        refine And.intro rfl (And.intro ?_ ?_)
        all_goals (repeat' (first | exact True.intro | exact rfl | refine And.intro ?_ ?_))
    · conv => whnf
      have hk' : k = l.length := by simp at h_; omega
      rw [hk', List.take_length]
      change LoopV _ _ _ [.box (matC (edgesM l))]
      generalize hw0 : edgesM l = w0
      refine loopV_of (fun o : Nat => ⟨[.any, .any, .ptr 0 0 0, .any, .any, .any, .any, .any, .any, .any, .any, .any, .any, .any, .any, .any, .any, .any, .any, .any, .any, .any, .any, .any, .any, .any, .any, .any, .any, .d (.int .i64 o), .any, .any, .any, .any, .any, .any, .any, .any, .any, .any, .any, .any, .any, .any, .any, .any, .any, .any, .any, .any, .any, .any, .any, .any, .any, .any, .any, .any, .any, .any, .any, .any, .any, .any, .any], [.box (matC (allW o w0))]⟩)
        (fun o => o ≤ 4) (fun o => 4 - o) 0 [0] (Nat.zero_le _) ?_ ?_
      · refine And.intro rfl (And.intro ?_ ?_)
        all_goals (repeat' (first | exact True.intro | exact rfl | refine And.intro ?_ ?_))
      · intro o ho
        conv => whnf
        refine And.intro (fun h2_ => ?_) (fun h2_ => ?_)
        · conv => whnf
          have ho' : o < 4 := by simp at h2_; omega
          have nexto : allW (o + 1) w0 = colW o 4 (allW o w0) := rfl
          generalize allW o w0 = wo at nexto ⊢
          refine loopV_of (fun f : Nat => ⟨[.any, .any, .ptr 0 0 0, .any, .any, .d (.int .i64 o), .any, .any, .any, .any, .any, .any, .any, .any, .any, .any, .any, .any, .any, .any, .any, .any, .any, .any, .any, .any, .any, .any, .any, .d (.int .i64 o), .any, .any, .d (.int .i64 f), .any, .any, .any, .any, .any, .any, .any, .any, .any, .any, .any, .any, .any, .any, .any, .any, .any, .any, .any, .any, .any, .any, .any, .any, .any, .any, .any, .any, .any, .any, .any, .any], [.box (matC (colW o f wo))]⟩)
            (fun f => f ≤ 4) (fun f => 4 - f) 0 [0] (Nat.zero_le _) ?_ ?_
          · refine And.intro rfl (And.intro ?_ ?_)
            all_goals (repeat' (first | exact True.intro | exact rfl | refine And.intro ?_ ?_))
          · intro f hf
            conv => whnf
            refine And.intro (fun h3_ => ?_) (fun h3_ => ?_)
            · conv => whnf
              have hf' : f < 4 := by simp at h3_; omega
              have nextf : colW o (f + 1) wo = rowW o f 4 (colW o f wo) := rfl
              generalize colW o f wo = wf at nextf ⊢
              refine loopV_of (fun t : Nat => ⟨[.any, .any, .ptr 0 0 0, .any, .any, .d (.int .i64 o), .d (.int .i64 f), .any, .any, .any, .any, .any, .any, .any, .any, .any, .any, .any, .any, .any, .any, .any, .any, .any, .any, .any, .any, .any, .any, .d (.int .i64 o), .any, .any, .d (.int .i64 f), .any, .any, .d (.int .i64 t), .any, .any, .any, .any, .any, .any, .any, .any, .any, .any, .any, .any, .any, .any, .any, .any, .any, .any, .any, .any, .any, .any, .any, .any, .any, .any, .any, .any, .any], [.box (matC (rowW o f t wf))]⟩)
                (fun t => t ≤ 4) (fun t => 4 - t) 0 [0] (Nat.zero_le _) ?_ ?_
              · refine And.intro rfl (And.intro ?_ ?_)
                all_goals (repeat' (first | exact True.intro | exact rfl | refine And.intro ?_ ?_))
              · intro t ht
                conv => whnf
                refine And.intro (fun h4_ => ?_) (fun h4_ => ?_)
                · conv => whnf
                  have ht' : t < 4 := by simp at h4_; omega
                  have nextt : rowW o f (t + 1) wf = stepW o f t (rowW o f t wf) := rfl
                  generalize rowW o f t wf = w at nextt ⊢
                  clear nextf nexto h4_ h3_ h2_ ho hf ht hk h_ hk' hl
                  have c1 : o = 0 ∨ o = 1 ∨ o = 2 ∨ o = 3 := by omega
                  have c2 : f = 0 ∨ f = 1 ∨ f = 2 ∨ f = 3 := by omega
                  have c3 : t = 0 ∨ t = 1 ∨ t = 2 ∨ t = 3 := by omega
                  obtain ⟨t', ht1⟩ : ∃ t', t' = t + 1 := ⟨_, rfl⟩
                  have b1 : t' ≤ 4 := by omega
                  have b2 : 4 - t' < 4 - t := by omega
                  rw [← ht1] at nextt
                  clear ho' hf' ht'
                  rcases c1 with rfl | rfl | rfl | rfl <;> rcases c2 with rfl | rfl | rfl | rfl <;> rcases c3 with rfl | rfl | rfl | rfl
                  all_goals
                    refine ⟨by decide, by decide, _, rfl, ?_⟩
                    conv => whnf
                    refine ⟨by decide, by decide, _, rfl, ?_⟩
                    conv => whnf
                    refine And.intro (fun q1 => ?_) (fun q1 => ?_)
                    · conv => whnf
                      refine ⟨by decide, by decide, _, rfl, ?_⟩
                      conv => whnf
                      refine ⟨by decide, by decide, _, rfl, ?_⟩
                      conv => whnf
                      refine And.intro (fun q2 => ?_) (fun q2 => ?_)
                      · conv => whnf
                        refine ⟨by decide, by decide, _, rfl, ?_⟩
                        conv => whnf
                        refine ⟨by decide, by decide, _, rfl, ?_⟩
                        conv => whnf
                        refine ⟨by decide, by decide, _, rfl, ?_⟩
                        conv => whnf
                        refine ⟨by decide, by decide, _, rfl, ?_⟩
                        conv => whnf
                        intro z hz
                        conv => whnf
                        rw [wrap_small (by omega) (by omega)] at hz
                        subst hz
                        refine ⟨t', [0], b1, b2, ?_⟩
                        subst ht1
                        rw [nextt]
                        refine And.intro rfl (And.intro ?_ ?_)
                        all_goals (repeat' (first | exact True.intro | exact rfl | refine And.intro ?_ ?_))
                        all_goals (show DV.bool _ = DV.bool (w _ _ || (w _ _ && w _ _)); first | (rw [q1] at q2; exact absurd q2 (by decide)) | simp [q1, q2])
                      · conv => whnf
                        refine ⟨by decide, by decide, _, rfl, ?_⟩
                        conv => whnf
                        refine ⟨by decide, by decide, _, rfl, ?_⟩
                        conv => whnf
                        intro z hz
                        conv => whnf
                        rw [wrap_small (by omega) (by omega)] at hz
                        subst hz
                        refine ⟨t', [0], b1, b2, ?_⟩
                        subst ht1
                        rw [nextt]
                        refine And.intro rfl (And.intro ?_ ?_)
                        all_goals (repeat' (first | exact True.intro | exact rfl | refine And.intro ?_ ?_))
                        all_goals (show DV.bool _ = DV.bool (w _ _ || (w _ _ && w _ _)); first | (rw [q1] at q2; exact absurd q2 (by decide)) | simp [q1, q2])
                    · conv => whnf
                      refine ⟨by decide, by decide, _, rfl, ?_⟩
                      conv => whnf
                      refine ⟨by decide, by decide, _, rfl, ?_⟩
                      conv => whnf
                      intro z hz
                      conv => whnf
                      rw [wrap_small (by omega) (by omega)] at hz
                      subst hz
                      refine ⟨t', [0], b1, b2, ?_⟩
                      subst ht1
                      rw [nextt]
                      refine And.intro rfl (And.intro ?_ ?_)
                      all_goals (repeat' (first | exact True.intro | exact rfl | refine And.intro ?_ ?_))
                      all_goals (show DV.bool _ = DV.bool (w _ _ || (w _ _ && w _ _)); simp [q1])
                · conv => whnf
                  have ht' : t = 4 := by simp at h4_; omega
                  subst ht'
                  intro z hz
                  conv => whnf
                  rw [wrap_small (by omega) (by omega)] at hz
                  subst hz
                  refine ⟨f + 1, [0], by omega, by omega, ?_⟩
                  rw [nextf]
                  refine And.intro rfl (And.intro ?_ ?_)
                  all_goals (repeat' (first | exact True.intro | exact rfl | refine And.intro ?_ ?_))
            · conv => whnf
              have hf' : f = 4 := by simp at h3_; omega
              subst hf'
              intro z hz
              conv => whnf
              rw [wrap_small (by omega) (by omega)] at hz
              subst hz
              refine ⟨o + 1, [0], by omega, by omega, ?_⟩
              rw [nexto]
              refine And.intro rfl (And.intro ?_ ?_)
              all_goals (repeat' (first | exact True.intro | exact rfl | refine And.intro ?_ ?_))
        · conv => whnf
          have ho' : o = 4 := by simp at h2_; omega
          subst ho'
          subst hw0
          exact ⟨[], rfl, (by (repeat' (first | exact True.intro | exact rfl | refine And.intro ?_ ?_))), True.intro⟩
end Go.Proofs.Ve


/- Waiting: who is stuck. -/
set_option maxRecDepth 100000
set_option maxHeartbeats 4000000
set_option linter.all false
namespace Go.Proofs.Ve
open Go
theorem bits_step (b0 b1 b2 b3 : Bool) : ∀ (k : Nat) (b : Bool), [b0, b1, b2, b3][k]? = some b → bitsL ([b0, b1, b2, b3].take (k + 1)) 0 = bitsL ([b0, b1, b2, b3].take k) 0 ++ bif b then [(k : Int)] else [] := by
  intro k b h
  match k, h with
  | 0, h => simp at h; subst h; cases b0 <;> rfl
  | 1, h => simp at h; subst h; cases b0 <;> cases b1 <;> rfl
  | 2, h => simp at h; subst h; cases b0 <;> cases b1 <;> cases b2 <;> rfl
  | 3, h => simp at h; subst h; cases b0 <;> cases b1 <;> cases b2 <;> cases b3 <;> rfl
  | k + 4, h => simp at h
def diagL (w : Mat) : List Bool := [w 0 0, w 1 1, w 2 2, w 3 3]
def stuckM (w : Mat) : List Int := bitsL (diagL w) 0
theorem stuck_parts (w : Mat) : ∃ R : Nat → List Int, R 0 = [] ∧ R 4 = stuckM w ∧ (∀ i b, (diagL w)[i]? = some b → R (i + 1) = R i ++ bif b then [(i : Int)] else []) ∧ ∀ i, (R i).length ≤ 4 :=
  ⟨fun k => bitsL ((diagL w).take k) 0, rfl, rfl, fun i b h => bits_step _ _ _ _ i b h, fun i => Nat.le_trans (bitsL_len _ _) (by rw [List.length_take]; exact Nat.min_le_right _ _)⟩
theorem c35r (l : List (Int × Int)) (hl : l.length < 100000) (H : List (List Blk)) : CallEq X H 59 [.d (encE l)] (.row 0 0 (stuckM (waysM l)).length) [⟨3, 1, rowI (stuckM (waysM l))⟩] := by
  refine callEq_of_body X_ok rfl Tryz.func59 rfl ?_
  conv => whnf
  refine ⟨_, _, c74 l hl _, True.intro, ?_⟩
  conv => whnf
  generalize waysM l = w
  obtain ⟨R, R0, R4, Rs, Rl⟩ := stuck_parts w
  rw [← R4]
  refine loopV_of (fun k : Nat => ⟨[.any, .any, .row 0 1 (R k).length, .ptr 0 0 0, .any, .any, .any, .d (.int .i64 k), .any, .any, .any, .any, .any, .any, .any, .any, .any, .any, .any, .any, .any], [.box (matC w), .row 3 1 (rowI (R k))]⟩)
    (fun k => k ≤ 4) (fun k => 4 - k) 0 [0, 100] (Nat.zero_le _) ?_ ?_
  · dsimp only
    rw [R0]
    refine And.intro rfl (And.intro ?_ ?_)
    all_goals (repeat' (first | exact True.intro | exact rfl | refine And.intro ?_ ?_))
  · intro k hk
    match k, hk with
    | 4, _ =>
      conv => whnf
      refine And.intro (fun h_ => absurd h_ (by decide)) (fun h_ => ?_)
      conv => whnf
      exact ⟨[1], rfl, And.intro rfl rfl, And.intro (And.intro rfl (And.intro rfl rfl)) True.intro⟩
    | 0, _ =>
      have st := Rs 0 _ rfl
      have hr := Rl 0
      conv => whnf
      refine And.intro (fun h_ => ?_) (fun h_ => absurd h_ (by decide))
      conv => whnf
      refine ⟨by decide, by decide, 0, rfl, ?_⟩
      conv => whnf
      refine ⟨by decide, by decide, 0, rfl, ?_⟩
      conv => whnf
      refine And.intro (fun q1 => ?_) (fun q1 => ?_) <;> (conv => whnf)
      · rw [q1, cond_true] at st
        refine ⟨fun y hy => by simp at hy; subst hy; rfl, ?_⟩
        conv => whnf
        refine ⟨(rowI_len _).symm, by (first | omega | (dsimp only; omega) | (simp; done) | (simp; omega)), ?_⟩
        conv => whnf
        intro z hz
        conv => whnf
        subst hz
        refine ⟨0 + 1, [0, 2], by omega, by omega, And.intro rfl (And.intro ?_ ?_)⟩
        all_goals (repeat' (first | exact True.intro | exact rfl | refine And.intro ?_ ?_))
        · show PV.row 0 2 _ = PV.row 0 2 _
          rw [st]; simp
        · rw [st]; simp [rowI]
      · rw [show w 0 0 = false from q1, cond_false, List.append_nil] at st
        intro z hz
        conv => whnf
        subst hz
        refine ⟨0 + 1, [0, 1], by omega, by omega, And.intro rfl (And.intro ?_ ?_)⟩
        all_goals (repeat' (first | exact True.intro | exact rfl | refine And.intro ?_ ?_))
        · show PV.row 0 1 _ = PV.row 0 1 _
          rw [st]
        · rw [st]
    | 1, _ =>
      have st := Rs 1 _ rfl
      have hr := Rl 1
      conv => whnf
      refine And.intro (fun h_ => ?_) (fun h_ => absurd h_ (by decide))
      conv => whnf
      refine ⟨by decide, by decide, 1, rfl, ?_⟩
      conv => whnf
      refine ⟨by decide, by decide, 1, rfl, ?_⟩
      conv => whnf
      refine And.intro (fun q1 => ?_) (fun q1 => ?_) <;> (conv => whnf)
      · rw [q1, cond_true] at st
        refine ⟨fun y hy => by simp at hy; subst hy; rfl, ?_⟩
        conv => whnf
        refine ⟨(rowI_len _).symm, by (first | omega | (dsimp only; omega) | (simp; done) | (simp; omega)), ?_⟩
        conv => whnf
        intro z hz
        conv => whnf
        subst hz
        refine ⟨1 + 1, [0, 2], by omega, by omega, And.intro rfl (And.intro ?_ ?_)⟩
        all_goals (repeat' (first | exact True.intro | exact rfl | refine And.intro ?_ ?_))
        · show PV.row 0 2 _ = PV.row 0 2 _
          rw [st]; simp
        · rw [st]; simp [rowI]
      · rw [show w 1 1 = false from q1, cond_false, List.append_nil] at st
        intro z hz
        conv => whnf
        subst hz
        refine ⟨1 + 1, [0, 1], by omega, by omega, And.intro rfl (And.intro ?_ ?_)⟩
        all_goals (repeat' (first | exact True.intro | exact rfl | refine And.intro ?_ ?_))
        · show PV.row 0 1 _ = PV.row 0 1 _
          rw [st]
        · rw [st]
    | 2, _ =>
      have st := Rs 2 _ rfl
      have hr := Rl 2
      conv => whnf
      refine And.intro (fun h_ => ?_) (fun h_ => absurd h_ (by decide))
      conv => whnf
      refine ⟨by decide, by decide, 2, rfl, ?_⟩
      conv => whnf
      refine ⟨by decide, by decide, 2, rfl, ?_⟩
      conv => whnf
      refine And.intro (fun q1 => ?_) (fun q1 => ?_) <;> (conv => whnf)
      · rw [q1, cond_true] at st
        refine ⟨fun y hy => by simp at hy; subst hy; rfl, ?_⟩
        conv => whnf
        refine ⟨(rowI_len _).symm, by (first | omega | (dsimp only; omega) | (simp; done) | (simp; omega)), ?_⟩
        conv => whnf
        intro z hz
        conv => whnf
        subst hz
        refine ⟨2 + 1, [0, 2], by omega, by omega, And.intro rfl (And.intro ?_ ?_)⟩
        all_goals (repeat' (first | exact True.intro | exact rfl | refine And.intro ?_ ?_))
        · show PV.row 0 2 _ = PV.row 0 2 _
          rw [st]; simp
        · rw [st]; simp [rowI]
      · rw [show w 2 2 = false from q1, cond_false, List.append_nil] at st
        intro z hz
        conv => whnf
        subst hz
        refine ⟨2 + 1, [0, 1], by omega, by omega, And.intro rfl (And.intro ?_ ?_)⟩
        all_goals (repeat' (first | exact True.intro | exact rfl | refine And.intro ?_ ?_))
        · show PV.row 0 1 _ = PV.row 0 1 _
          rw [st]
        · rw [st]
    | 3, _ =>
      have st := Rs 3 _ rfl
      have hr := Rl 3
      conv => whnf
      refine And.intro (fun h_ => ?_) (fun h_ => absurd h_ (by decide))
      conv => whnf
      refine ⟨by decide, by decide, 3, rfl, ?_⟩
      conv => whnf
      refine ⟨by decide, by decide, 3, rfl, ?_⟩
      conv => whnf
      refine And.intro (fun q1 => ?_) (fun q1 => ?_) <;> (conv => whnf)
      · rw [q1, cond_true] at st
        refine ⟨fun y hy => by simp at hy; subst hy; rfl, ?_⟩
        conv => whnf
        refine ⟨(rowI_len _).symm, by (first | omega | (dsimp only; omega) | (simp; done) | (simp; omega)), ?_⟩
        conv => whnf
        intro z hz
        conv => whnf
        subst hz
        refine ⟨3 + 1, [0, 2], by omega, by omega, And.intro rfl (And.intro ?_ ?_)⟩
        all_goals (repeat' (first | exact True.intro | exact rfl | refine And.intro ?_ ?_))
        · show PV.row 0 2 _ = PV.row 0 2 _
          rw [st]; simp
        · rw [st]; simp [rowI]
      · rw [show w 3 3 = false from q1, cond_false, List.append_nil] at st
        intro z hz
        conv => whnf
        subst hz
        refine ⟨3 + 1, [0, 1], by omega, by omega, And.intro rfl (And.intro ?_ ?_)⟩
        all_goals (repeat' (first | exact True.intro | exact rfl | refine And.intro ?_ ?_))
        · show PV.row 0 1 _ = PV.row 0 1 _
          rw [st]
        · rw [st]
theorem c35 (l : List (Int × Int)) (hl : l.length < 100000) (H : List (List Blk)) : CallEq X H 59 [.d (encE l)] (.d (encI (stuckM (waysM l)))) [] :=
  (c35r l hl H).freeze 2 (by
    change PV.d (.sl (List.take (stuckM (waysM l)).length (rowI (stuckM (waysM l))))) = _
    rw [List.take_of_length_le (by rw [rowI_len]; exact Nat.le_refl _)]; rfl)
end Go.Proofs.Ve


/- Waiting: who waits for whom. -/
set_option maxRecDepth 100000
set_option linter.all false
namespace Go.Proofs.Ve
open Go
def edgesO (l : Locks) (o : Nat) : List (Int × Int) := (lBlockers l o).map fun b => ((o : Int), b)
def edgesTo (l : Locks) : Nat → List (Int × Int)
  | 0 => []
  | o + 1 => edgesTo l o ++ edgesO l o
def edgesL (l : Locks) : List (Int × Int) := edgesTo l 4
theorem blockers_len (l : Locks) (o : Int) : (lBlockers l o).length ≤ 4 := by
  rw [lblockers_eq]
  unfold rBlockers
  split
  · split
    · unfold rAhead
      exact Nat.le_trans (bitsL_len _ _) (by simp)
    · decide
  · decide
theorem edgesTo_len (l : Locks) : ∀ o, (edgesTo l o).length ≤ 4 * o
  | 0 => by simp [edgesTo]
  | o + 1 => by
    have := edgesTo_len l o
    have := blockers_len l o
    unfold edgesTo edgesO
    rw [List.length_append, List.length_map]; omega
def rowE (l : List (Int × Int)) : List (List DV) := l.map cEdge
theorem rowE_len (l : List (Int × Int)) : (rowE l).length = l.length := by simp [rowE]
theorem c33r (l : Locks) (h1 : l.held.length < 100000) (h2 : l.queue.length < 100000) (H : List (List Blk)) : CallEq X H 25 [pLocks l] (.row 0 0 (edgesL l).length) [⟨92, 2, rowE (edgesL l)⟩] := by
  refine callEq_of_body X_ok rfl Tryz.func25 rfl ?_
  conv => whnf
  refine loopV_of (fun o : Nat => ⟨[.any, .ptr 0 0 0, .row 0 1 (edgesTo l o).length, .any, .any, .any, .d (.int .i64 o), .any, .any, .any, .any, .any, .any, .any, .any, .any, .any, .any, .any, .any, .any, .any, .any, .any, .any, .any], [bLocks l, .row 92 2 (rowE (edgesTo l o))]⟩)
    (fun o => o ≤ 4) (fun o => 4 - o) 0 [0, 100] (Nat.zero_le _) ?_ ?_
  · refine And.intro rfl (And.intro ?_ ?_)
    all_goals (repeat' (first | exact True.intro | exact rfl | refine And.intro ?_ ?_))
  · intro o ho
    conv => whnf
    refine And.intro (fun h_ => ?_) (fun h_ => ?_)
    · conv => whnf
      have ho' : o < 4 := by simp at h_; omega
      have e1 := edgesTo_len l o
      have e2 := blockers_len l o
      have st : edgesTo l (o + 1) = edgesTo l o ++ edgesO l o := rfl
      refine ⟨_, _, c17 l o h1 h2 _, True.intro, ?_⟩
      conv => whnf
      unfold edgesO at st
      generalize lBlockers l o = B at e2 st ⊢
      generalize edgesTo l o = E at e1 st ⊢
      refine loopV_of (fun k : Nat => ⟨[.any, .ptr 0 0 0, .row 0 1 (E ++ (B.take k).map fun b => ((o : Int), b)).length, .d (.int .i64 o), .any, .any, .d (.int .i64 o), .any, .any, .any, .any, .d (encI B), .d (.int .i64 (B.map fun x => [DV.int .i64 x]).length), .d (.int .i64 k), .any, .any, .any, .any, .any, .any, .any, .any, .any, .any, .any, .any], [bLocks l, .row 92 2 (rowE (E ++ (B.take k).map fun b => ((o : Int), b)))]⟩)
        (fun k => k ≤ B.length) (fun k => B.length - k) 0 [0, 1] (Nat.zero_le _) ?_ ?_
      · refine And.intro rfl (And.intro ?_ ?_)
        all_goals (repeat' (first | exact True.intro | exact rfl | refine And.intro ?_ ?_))
        all_goals (first | (show PV.row 0 1 _ = PV.row 0 1 _; simp; done) | (simp; done) | trace_state)
      · intro k hk
        conv => whnf
        refine And.intro (fun h_ => ?_) (fun h_ => ?_)
        · conv => whnf
          have hk' : k < B.length := by simp at h_; omega
          obtain ⟨b, hb⟩ : ∃ b, B[k]? = some b := ⟨_, List.getElem?_eq_getElem hk'⟩
          have fb : (B.map fun x => [DV.int .i64 x])[k]? = some [.int .i64 b] := by simp [hb]
          have sk : (B.take (k + 1)).map (fun b => ((o : Int), b)) = (B.take k).map (fun b => ((o : Int), b)) ++ [((o : Int), b)] := by rw [take_snoc' hb, List.map_append]; rfl
          have hlt : (B.take k).length ≤ 4 := by rw [List.length_take]; omega
          refine ⟨by omega, [.int .i64 b], fb, rfl, ?_⟩
          conv => whnf
          refine ⟨fun y hy => by simp at hy; subst hy; rfl, ?_⟩
          conv => whnf
          refine ⟨(rowE_len _).symm, by (first | (simp; omega) | (first | omega | (dsimp only; omega) | (simp; done) | (simp; omega))), ?_⟩
          conv => whnf
          intro z hz
          conv => whnf
          rw [wrap_small (by omega) (by omega)] at hz
          subst hz
          refine ⟨k + 1, [0, 2], by omega, by omega, And.intro rfl (And.intro ?_ ?_)⟩
          all_goals (repeat' (first | exact True.intro | exact rfl | refine And.intro ?_ ?_))
          · show PV.row 0 2 _ = PV.row 0 2 _
            rw [sk]; simp; omega
          · rw [sk]; simp [rowE, cEdge]
        · conv => whnf
          have hk' : k = B.length := by simp at h_; omega
          rw [hk', List.take_length, ← st]
          intro z hz
          conv => whnf
          rw [wrap_small (by omega) (by omega)] at hz
          subst hz
          refine ⟨o + 1, [0, 1], by omega, by omega, And.intro rfl (And.intro ?_ ?_)⟩
          all_goals (repeat' (first | exact True.intro | exact rfl | refine And.intro ?_ ?_))
    · conv => whnf
      have ho' : o = 4 := by simp at h_; omega
      subst ho'
      exact ⟨[1], rfl, And.intro rfl rfl, And.intro (And.intro rfl (And.intro rfl rfl)) True.intro⟩
theorem edgesL_len (l : Locks) : (edgesL l).length ≤ 16 := edgesTo_len l 4
theorem c33 (l : Locks) (h1 : l.held.length < 100000) (h2 : l.queue.length < 100000) (H : List (List Blk)) : CallEq X H 25 [pLocks l] (.d (encE (edgesL l))) [] :=
  (c33r l h1 h2 H).freeze 2 (by
    change PV.d (.sl (List.take (edgesL l).length (rowE (edgesL l)))) = _
    rw [List.take_of_length_le (by rw [rowE_len]; exact Nat.le_refl _)]; rfl)
/-! ### the document's -/
def rEdgesO (l : Locks) (o : Nat) : List (Int × Int) := if rWaits l o then (rBlockers l o).map fun b => ((o : Int), b) else []
theorem redges_eq (l : Locks) (o : Nat) : rEdgesO l o = edgesO l o := by
  unfold rEdgesO edgesO
  rw [← lblockers_eq, ← lwaits_eq]
  split
  · rfl
  · next h => unfold lBlockers; rw [if_neg h]; rfl
def eqE (x y : Int × Int) : Bool := x.1 == y.1 && (x.2 == y.2 && true)
def sameEF : List (Int × Int) → List (Int × Int) → Bool
  | [], _ => true
  | x :: xs, ys => match ys with | [] => true | y :: ys => bif !eqE x y then false else sameEF xs ys
theorem sameE_step {l m : List (Int × Int)} {k : Nat} {x y : Int × Int} (h : l[k]? = some x) (h' : m[k]? = some y) : sameEF (l.drop k) (m.drop k) = bif !eqE x y then false else sameEF (l.drop (k + 1)) (m.drop (k + 1)) := by
  have hk := (List.getElem?_eq_some_iff.1 h).1
  have hm := (List.getElem?_eq_some_iff.1 h').1
  rw [List.drop_eq_getElem_cons hk, List.drop_eq_getElem_cons hm, (List.getElem?_eq_some_iff.1 h).2, (List.getElem?_eq_some_iff.1 h').2, sameEF]
def sameE (a b : List (Int × Int)) : Bool := if ((a.map cEdge).length : Int) != ((b.map cEdge).length : Int) then false else sameEF a b
theorem sameEF_self : ∀ l : List (Int × Int), sameEF l l = true
  | [] => rfl
  | x :: xs => by rw [sameEF, show eqE x x = true by simp [eqE], sameEF_self xs]; rfl
theorem sameE_self (l : List (Int × Int)) : sameE l l = true := by unfold sameE; simp [sameEF_self]
end Go.Proofs.Ve

/- Waiting: the document's Edges. -/
set_option maxRecDepth 100000
set_option linter.all false
namespace Go.Proofs.Ve
open Go
theorem c34r (l : Locks) (h1 : l.held.length < 100000) (h2 : l.queue.length < 100000) (H : List (List Blk)) : CallEq X H 28 [pLocks l] (.row 0 0 (edgesL l).length) [⟨92, 2, rowE (edgesL l)⟩] := by
  refine callEq_of_body X_ok rfl Tryz.func28 rfl ?_
  conv => whnf
  refine loopV_of (fun o : Nat => ⟨[.any, .ptr 0 0 0, .any, .row 0 1 (edgesTo l o).length, .d (.int .i64 o), .any, .any, .any, .any, .any, .any, .any, .any, .any, .any, .any, .any, .any, .any, .any, .any, .any, .any, .any, .any, .any, .any, .any, .any, .any, .any, .any, .any, .any, .any, .any], [bLocks l, .row 92 2 (rowE (edgesTo l o))]⟩)
    (fun o => o ≤ 4) (fun o => 4 - o) 0 [0, 100] (Nat.zero_le _) ?_ ?_
  · refine And.intro rfl (And.intro ?_ ?_)
    all_goals (repeat' (first | exact True.intro | exact rfl | refine And.intro ?_ ?_))
  · intro o ho
    conv => whnf
    refine And.intro (fun h_ => ?_) (fun h_ => ?_)
    · conv => whnf
      have ho' : o < 4 := by simp at h_; omega
      have e1 := edgesTo_len l o
      have e2 := blockers_len l o
      rw [lblockers_eq] at e2
      have st : edgesTo l (o + 1) = edgesTo l o ++ rEdgesO l o := by rw [redges_eq]; rfl
      unfold rEdgesO at st
      refine ⟨_, _, c24 l o h1 h2 _, True.intro, ?_⟩
      conv => whnf
      refine And.intro (fun q1 => ?_) (fun q1 => ?_) <;> (conv => whnf)
      · rw [show rWaits l o = false by simpa using q1, if_neg (by simp), List.append_nil] at st
        intro z hz
        conv => whnf
        rw [wrap_small (by omega) (by omega)] at hz
        subst hz
        refine ⟨o + 1, [0, 1], by omega, by omega, And.intro rfl (And.intro ?_ ?_)⟩
        all_goals (repeat' (first | exact True.intro | exact rfl | refine And.intro ?_ ?_))
        · show PV.row 0 1 _ = PV.row 0 1 _
          rw [st]
        · rw [st]
      · rw [show rWaits l o = true by simpa using q1, if_pos rfl] at st
        refine ⟨_, _, c18 l o h1 h2 _, True.intro, ?_⟩
        conv => whnf
        generalize rBlockers l o = B at e2 st ⊢
        generalize edgesTo l o = E at e1 st ⊢
        refine loopV_of (fun k : Nat => ⟨[.any, .ptr 0 0 0, .any, .row 0 1 (E ++ (B.take k).map fun b => ((o : Int), b)).length, .d (.int .i64 o), .any, .d (encI B), .d (.int .i64 k), .any, .any, .any, .any, .any, .any, .any, .any, .any, .any, .any, .any, .any, .any, .any, .any, .any, .any, .any, .any, .any, .any, .any, .any, .any, .any, .any, .any], [bLocks l, .row 92 2 (rowE (E ++ (B.take k).map fun b => ((o : Int), b)))]⟩)
          (fun k => k ≤ B.length) (fun k => B.length - k) 0 [0, 1] (Nat.zero_le _) ?_ ?_
        · refine And.intro rfl (And.intro ?_ ?_)
          all_goals (repeat' (first | exact True.intro | exact rfl | refine And.intro ?_ ?_))
          all_goals (first | (show PV.row 0 1 _ = PV.row 0 1 _; simp; done) | (simp; done))
        · intro k hk
          conv => whnf
          refine And.intro (fun h_ => ?_) (fun h_ => ?_)
          · conv => whnf
            have hk' : k < B.length := by simpa using h_
            obtain ⟨b, hb⟩ : ∃ b, B[k]? = some b := ⟨_, List.getElem?_eq_getElem hk'⟩
            have fb : (B.map fun x => [DV.int .i64 x])[k]? = some [.int .i64 b] := by simp [hb]
            have sk : (B.take (k + 1)).map (fun b => ((o : Int), b)) = (B.take k).map (fun b => ((o : Int), b)) ++ [((o : Int), b)] := by rw [take_snoc' hb, List.map_append]; rfl
            have hlt : (B.take k).length ≤ 4 := by rw [List.length_take]; omega
            refine ⟨by omega, [.int .i64 b], fb, rfl, ?_⟩
            conv => whnf
            refine ⟨fun y hy => by simp at hy; subst hy; rfl, ?_⟩
            conv => whnf
            refine ⟨(rowE_len _).symm, by (first | (simp; omega) | (first | omega | (dsimp only; omega) | (simp; done) | (simp; omega))), ?_⟩
            conv => whnf
            intro z hz
            conv => whnf
            rw [wrap_small (by omega) (by omega)] at hz
            subst hz
            refine ⟨k + 1, [0, 2], by omega, by omega, And.intro rfl (And.intro ?_ ?_)⟩
            all_goals (repeat' (first | exact True.intro | exact rfl | refine And.intro ?_ ?_))
            · show PV.row 0 2 _ = PV.row 0 2 _
              rw [sk]; simp; omega
            · rw [sk]; simp [rowE, cEdge]
          · conv => whnf
            have hk' : k = B.length := by simp at h_; omega
            rw [hk', List.take_length, ← st]
            intro z hz
            conv => whnf
            rw [wrap_small (by omega) (by omega)] at hz
            subst hz
            refine ⟨o + 1, [0, 1], by omega, by omega, And.intro rfl (And.intro ?_ ?_)⟩
            all_goals (repeat' (first | exact True.intro | exact rfl | refine And.intro ?_ ?_))
    · conv => whnf
      have ho' : o = 4 := by simp at h_; omega
      subst ho'
      exact ⟨[1], rfl, And.intro rfl rfl, And.intro (And.intro rfl (And.intro rfl rfl)) True.intro⟩
theorem c34 (l : Locks) (h1 : l.held.length < 100000) (h2 : l.queue.length < 100000) (H : List (List Blk)) : CallEq X H 28 [pLocks l] (.d (encE (edgesL l))) [] :=
  (c34r l h1 h2 H).freeze 2 (by
    change PV.d (.sl (List.take (edgesL l).length (rowE (edgesL l)))) = _
    rw [List.take_of_length_le (by rw [rowE_len]; exact Nat.le_refl _)]; rfl)
end Go.Proofs.Ve
