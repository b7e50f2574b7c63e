/- A region whose order is drawn: whole. -/
import Derived.Test.YtpmhiiembbfbeaaV17
set_option linter.all false
namespace Go.Proofs.Ve
open Go

theorem rp_bool {m : M} {p : PV} {v : Value} {b : Bool} (h : RP m p v) (hb : bool? p = some b) : v = .bool b := by
  cases p with
  | kb x => simp [bool?] at hb; subst hb; cases h; rfl
  | d x =>
    cases x with
    | bool x => simp [bool?] at hb; subst hb; cases h with | d _ _ hx => cases hx; rfl
    | int k n => simp [bool?] at hb
    | str s => simp [bool?] at hb
    | sl xs => simp [bool?] at hb
  | _ => simp [bool?] at hb

theorem St.draw {H : List (List Blk)} {m0 : M0} {m : M} {a : Act} {tm : List PV} {top : List Blk} (h : St H m0 m a tm top) (n : Nat) : St H m0 ⟨{ m.w with drawn := n }, m.ρ, m.U⟩ a tm top := by
  have hK : Keep m ⟨{ m.w with drawn := n }, m.ρ, m.U⟩ := ⟨fun _ _ _ h => h, Nat.le_refl _, fun k hk => ⟨hk.2, rfl⟩⟩
  refine ⟨⟨fun l i b hb => (h.inv.blk l i b hb).keep hK rfl (fun _ _ _ _ _ => rfl), h.inv.inj, h.inv.own, h.inv.lt⟩, h.size, fun j p v hp hv => (h.rel j p v hp hv).keep hK, h.defers, h.free, ?_⟩
  exact ⟨h.since.os, h.since.tape, h.since.output, h.since.size, h.since.heap, h.since.up, h.since.U, h.since.fresh⟩

section
variable {C : Cx} {H : List (List Blk)} {ops : List Oper} {S : Seqn} {T : List Nat} {m0 : M0} {m : M} {a : Act} {L : Array Bool}
theorem some1_evR (hS : ∀ (k : Nat) o, ops[k]? = some o → StpOk C H ops o (S.w k) (S.pv k) (S.tc k) (S.tr k) (S.tc (k + 1)) (S.tp k) (S.tp (k + 1))) (hD : Drawn C.give ops T) (hL : Some1 C H ops S m0 m a L) {i : Nat} {o : Oper} (ho : ops[i]? = some o) (hr : Rdy ops L i) (hn : ¬ Dn L i) :
    EvR m a (S.tr i) o.op.operands.toList := by
  intro t p ht hp
  have hil : i < ops.length := (List.getElem?_eq_some_iff.1 ho).1
  have s := hS i o ho
  have hlt : t < (S.tc i).length := by rw [s.le.1]; exact (List.getElem?_eq_some_iff.1 hp).1
  have hta : t < a.tmps.size := by rw [hL.size, ← tc_len hS i (by omega)]; exact hlt
  obtain ⟨q, hq, h1⟩ := s.le.2 t _ (List.getElem?_eq_getElem hlt)
  rw [hp] at hq; cases hq
  have hst := stage_of hD hL ho hr hn (t := t) (by
    unfold Oper.looksAt
    exact List.mem_append_left _ (List.mem_filterMap.2 ⟨_, ht, rfl⟩))
  have := h1 m _ (hL.vals t i _ _ (by omega) hst (List.getElem?_eq_getElem hlt) (Array.getElem?_eq_getElem hta))
  simpa [Act.eval, Array.getD, hta] using this
theorem some1_want (hS : ∀ (k : Nat) o, ops[k]? = some o → StpOk C H ops o (S.w k) (S.pv k) (S.tc k) (S.tr k) (S.tc (k + 1)) (S.tp k) (S.tp (k + 1))) (hD : Drawn C.give ops T) (hL : Some1 C H ops S m0 m a L) {i : Nat} {o : Oper} (ho : ops[i]? = some o) (hr : Rdy ops L i) (hn : ¬ Dn L i) :
    Region.wanted o (yielded ops.toArray a.tmps) = S.w i := by
  have hil : i < ops.length := (List.getElem?_eq_some_iff.1 ho).1
  rcases (hS i o ho).want with ⟨hg, hw⟩ | ⟨j, b, o', d, p, x, hg, hj, hd, ⟨hp, hb, hw⟩ | ⟨hp, hw⟩⟩
  · rw [hw]; simp [Region.wanted, hg]
  · have hlt : d < (S.tc i).length := (List.getElem?_eq_some_iff.1 hp).1
    have hta : d < a.tmps.size := by rw [hL.size, ← tc_len hS i (by omega)]; exact hlt
    have hst := stage_of hD hL ho hr hn (t := d) (by
      unfold Oper.looksAt
      refine List.mem_append_right _ ?_
      simp [hg, hj, hd])
    have hv := Array.getElem?_eq_getElem hta
    have := rp_bool (hL.vals d i _ _ (by omega) hst hp hv) hb
    rw [this] at hv
    have hy : yielded ops.toArray a.tmps j = some x := by simp [Go.yielded, hj, hd, hv]
    simp only [Region.wanted, hg, hy]
    rw [hw]
    cases x <;> cases b <;> rfl
  · have hlt : d < (S.tc i).length := (List.getElem?_eq_some_iff.1 hp).1
    have hta : d < a.tmps.size := by rw [hL.size, ← tc_len hS i (by omega)]; exact hlt
    have hst := stage_of hD hL ho hr hn (t := d) (by
      unfold Oper.looksAt
      refine List.mem_append_right _ ?_
      simp [hg, hj, hd])
    have hv := Array.getElem?_eq_getElem hta
    have hrp := hL.vals d i _ _ (by omega) hst hp hv
    generalize a.tmps[d] = v at hv hrp
    cases hrp with
    | tuple _ vs e1 e2 =>
      have hy : yielded ops.toArray a.tmps j = none := by simp [Go.yielded, hj, hd, hv]
      simp only [Region.wanted, hg, hy, hw]
      rfl

theorem any_spec (hS : ∀ (k : Nat) o, ops[k]? = some o → StpOk C H ops o (S.w k) (S.pv k) (S.tc k) (S.tr k) (S.tc (k + 1)) (S.tp k) (S.tp (k + 1))) (hD : Drawn C.give ops T) {Q : Exit → Act → World → Prop} (hQ : ∀ m a, St H m0 m a (S.tc ops.length) (S.tp ops.length) → Q .normal a m.w) :
    ∀ (fuel : Nat) (L : Array Bool) (m : M) (a : Act), Some1 C H ops S m0 m a L → L.toList.count false = fuel → wpAny C.P .any ops.toArray Q fuel L a m.w := by
  -- all done
  have done : ∀ (L : Array Bool) (m : M) (a : Act), Some1 C H ops S m0 m a L → (∀ i, i < ops.length → Dn L i) → Q .normal a m.w := by
    intro L m a hL hall
    obtain ⟨c, hc, h1, h2, h3, h4, h5⟩ := hL.phase
    have htp : S.tp ops.length = S.tp c := by
      have := tp_same hS (ops.length - c) c (by omega) (fun j o h6 h7 ho => by
        cases hp : pureOp o.op with
        | true => rfl
        | false => exact absurd (hall j (List.getElem?_eq_some_iff.1 ho).1) (h4 j o ho hp h6))
      rwa [show c + (ops.length - c) = ops.length by omega] at this
    refine hQ m a ⟨by rw [htp]; exact h1, by rw [hL.size, tc_len hS _ (Nat.le_refl _)], fun t p v hp hv => hL.vals t _ p v (Nat.le_refl _) (fun j o hj _ => ?_) hp hv, hL.defers, fun j hj => h2 j (by rwa [htp] at hj), hL.since⟩
    have := (List.getElem?_eq_some_iff.1 hj).1
    exact ⟨fun _ => hall j this, fun _ => this⟩
  have ready : ∀ (L : Array Bool) (i : Nat), L.size = ops.length → (i ∈ Region.ready .any ops.toArray L ↔ i < ops.length ∧ ¬ Dn L i ∧ Rdy ops L i) := by
    intro L i hl
    rw [mem_ready]
    constructor
    · rintro ⟨h1, o, ho, h2⟩
      have ho' : ops[i]? = some o := by simpa using ho
      refine ⟨(List.getElem?_eq_some_iff.1 ho').1, fun h => ?_, o, ho', h2⟩
      have hi : i < L.size := by rw [hl]; exact (List.getElem?_eq_some_iff.1 ho').1
      unfold Dn at h
      simp [hi] at h1 h
      rw [h1] at h; cases h
    · rintro ⟨hi, h1, o, ho, h2⟩
      refine ⟨?_, o, by simpa using ho, h2⟩
      unfold Dn at h1
      have hi : i < L.size := by rw [hl]; exact hi
      simp [hi] at h1 ⊢
      exact h1
  -- one more done
  have next : ∀ (L : Array Bool) (m : M) (a : Act) (i : Nat) (o : Oper), Some1 C H ops S m0 m a L → ops[i]? = some o → Rdy ops L i → ¬ Dn L i → ∀ (m' : M) (v : Value), Keep m m' → Since m0 m' → RP m' (S.pv i) v →
      (∃ c, c ≤ ops.length ∧ Inv m' (S.tp c) H ∧ (∀ j, (S.tp c).length ≤ j → m'.ρ 0 j = none) ∧ (∀ (i : Nat) o, ops[i]? = some o → c ≤ i → lateB C.give ops i = true) ∧
        (∀ (k : Nat) o, ops[k]? = some o → pureOp o.op = false → c ≤ k → ¬ Dn (L.setIfInBounds i true) k) ∧
        (∀ (k : Nat) o, ops[k]? = some o → pureOp o.op = false → k < c → ¬ Dn (L.setIfInBounds i true) k → lateB C.give ops (c - 1) = false ∧ ∀ j, (S.tp k).length ≤ j → j < (S.tp (k + 1)).length → m'.ρ 0 j = none)) →
      Some1 C H ops S m0 m' (a.put o.dst v) (L.setIfInBounds i true) := by
    intro L m a i o hL ho hr hn m' v hK hs hv hph
    refine ⟨by simp [hL.len], closed_set hL.len hL.closed hr, ?_, vals_set hS hD hL ho hn hK hv, ?_, hs, hph⟩
    · rw [← hL.size]; unfold Act.put; split <;> simp
    · rw [← hL.defers]; unfold Act.put; split <;> rfl
  intro fuel
  induction fuel with
  | zero =>
    intro L m a hL hcount
    have hall : ∀ i, i < ops.length → Dn L i := by
      intro i hi
      rw [List.count_eq_zero] at hcount
      have hi : i < L.size := by rw [hL.len]; exact hi
      unfold Dn
      cases hv : L[i] with
      | true => simp [hi, hv]
      | false => exact absurd (List.mem_of_getElem? (i := i) (by simp [hi, hv])) hcount
    refine ⟨List.eq_nil_iff_forall_not_mem.2 fun i hi => ?_, done L m a hL hall⟩
    obtain ⟨h1, h2, _⟩ := (ready L i hL.len).1 hi
    exact h2 (hall i h1)
  | succ fuel ih =>
    intro L m a hL hcount
    refine ⟨fun hnil => done L m a hL ?_, fun i hi => ?_⟩
    · have : ∀ n i, i < n → i < ops.length → Dn L i := by
        intro n
        induction n with
        | zero => intro i h; omega
        | succ n ihn =>
          intro i hin hi
          by_cases hd : Dn L i
          · exact hd
          · exfalso
            have hmem := (ready L i hL.len).2 ⟨hi, hd, _, List.getElem?_eq_getElem hi, fun e he hb => ihn e.on (by have := hD.back i _ (List.getElem?_eq_getElem hi) e he hb; omega) (by have := hD.back i _ (List.getElem?_eq_getElem hi) e he hb; omega)⟩
            rw [hnil] at hmem; cases hmem
      exact fun i hi => this (i + 1) i (Nat.lt_succ_self i) hi
    · obtain ⟨hil, hn, hr⟩ := (ready L i hL.len).1 hi
      obtain ⟨o, ho⟩ : ∃ o, ops[i]? = some o := ⟨_, List.getElem?_eq_getElem hil⟩
      have hiL : i < L.size := by rw [hL.len]; exact hil
      have hcount' : (L.setIfInBounds i true).toList.count false = fuel := by
        rw [Array.toList_setIfInBounds, List.count_set (by simpa using hiL)]
        have hf : L.toList[i]'(by simpa using hiL) = false := by
          unfold Dn at hn
          simpa [hiL] using hn
        rw [hf, hcount]; simp
      have s := hS i o ho
      have hev := some1_evR hS hD hL ho hr hn
      have hwant := some1_want hS hD hL ho hr hn
      have hdn : ∀ k, Dn (L.setIfInBounds i true) k ↔ k = i ∨ Dn L k := dn_set hiL
      obtain ⟨c, hc, h1, h2, h3, h4, h5⟩ := hL.phase
      -- out of the tail's order
      have tail : pureOp o.op = false → c ≤ i → (∀ (j : Nat) oj, j < i → ops[j]? = some oj → pureOp oj.op = false → Dn L j) ∧ S.tp i = S.tp c := by
        intro hp hci
        have key : ∀ (j : Nat) oj, j < i → ops[j]? = some oj → pureOp oj.op = false → Dn L j := by
          intro j oj hj hoj hpj
          rcases hD.pair j i oj o hj hoj ho with hb | ⟨_, h | h | h⟩
          · exact bit_done hD hL.closed (i + 1) i (Nat.lt_succ_self i) hr j hb
          · rw [hpj] at h; cases h
          · rw [hp] at h; cases h
          · rw [h3 i o ho hci] at h; cases h
        refine ⟨key, ?_⟩
        have := tp_same hS (i - c) c (by omega) (fun j oj h6 h7 hoj => by
          cases hpj : pureOp oj.op with
          | true => rfl
          | false => exact absurd (key j oj (by omega) hoj hpj) (h4 j oj hoj hpj h6))
        rwa [show c + (i - c) = i by omega] at this
      -- the phase, where nothing is made
      have quiet : S.tp (i + 1) = S.tp i → ∃ c, c ≤ ops.length ∧ Inv m (S.tp c) H ∧ (∀ j, (S.tp c).length ≤ j → m.ρ 0 j = none) ∧ (∀ (i : Nat) o, ops[i]? = some o → c ≤ i → lateB C.give ops i = true) ∧
        (∀ (k : Nat) o, ops[k]? = some o → pureOp o.op = false → c ≤ k → ¬ Dn (L.setIfInBounds i true) k) ∧
        (∀ (k : Nat) o, ops[k]? = some o → pureOp o.op = false → k < c → ¬ Dn (L.setIfInBounds i true) k → lateB C.give ops (c - 1) = false ∧ ∀ j, (S.tp k).length ≤ j → j < (S.tp (k + 1)).length → m.ρ 0 j = none) := by
        intro htp
        by_cases hcase : pureOp o.op = false ∧ c ≤ i
        · obtain ⟨hp, hci⟩ := hcase
          obtain ⟨t1, t2⟩ := tail hp hci
          refine ⟨i + 1, by omega, by rw [htp, t2]; exact h1, fun j hj => h2 j (by rw [← t2, ← htp]; exact hj), fun k ok hk h => h3 k ok hk (by omega), fun k ok hk hpk h hd => ?_, fun k ok hk hpk h hd => ?_⟩
          · rcases (hdn k).1 hd with rfl | hd
            · omega
            · exact h4 k ok hk hpk (by omega) hd
          · exfalso
            rcases Nat.lt_or_ge k i with h6 | h6
            · exact hd ((hdn k).2 (.inr (t1 k ok h6 hk hpk)))
            · exact hd ((hdn k).2 (.inl (by omega)))
        · refine ⟨c, hc, h1, h2, h3, fun k ok hk hpk h hd => ?_, fun k ok hk hpk h hd => h5 k ok hk hpk h (fun hd' => hd ((hdn k).2 (.inr hd')))⟩
          rcases (hdn k).1 hd with rfl | hd
          · rw [ho] at hk; cases hk; exact hcase ⟨hpk, h⟩
          · exact h4 k ok hk hpk h hd
      unfold wpOp
      simp only [List.getElem?_toArray, ho]
      rw [hwant]
      cases hw : S.w i with
      | false =>
        simp only [Bool.false_eq_true, if_false]
        obtain ⟨hpv, htp⟩ := s.skip hw
        exact ih _ m _ (next L m a i o hL ho hr hn m undef (.refl m) hL.since (by rw [hpv]; exact .tuple [] #[] rfl (fun j p v h => by simp at h)) (quiet htp)) hcount'
      | true =>
        simp only [if_true]
        refine .inl ?_
        cases hp : pureOp o.op with
        | true =>
          obtain ⟨htp, hps⟩ := s.pure hw hp
          obtain ⟨v, hrun, hv⟩ := hps m a hev
          unfold Oper.wp
          rw [hrun]
          exact ih _ m _ (next L m a i o hL ho hr hn m v (.refl m) hL.since hv (quiet htp)) hcount'
        | false =>
          rcases Nat.lt_or_ge i c with hic | hci
          · -- made out of turn
            obtain ⟨hlate, hfree⟩ := h5 i o ho hp hic hn
            obtain ⟨hpre, hstep⟩ := s.op hw (late_no hlate hic ho)
            have p1 : S.tp (i + 1) <+: S.tp c := by
              have := tp_prefix hS (c - (i + 1)) (i + 1) (by omega) (fun j oj h6 h7 hj => late_no hlate (by omega) hj)
              rwa [show i + 1 + (c - (i + 1)) = c by omega] at this
            refine hstep m a (inv_prefix (hpre.trans p1) h1) hev hfree _ Q fun v m' hg hρ hfr hi' hv => ?_
            have hsince : Since m0 m' := by
              have s := hL.since
              refine ⟨hg.os.trans s.os, hg.tape.trans s.tape, hg.output.trans s.output, Nat.le_trans s.size hg.size, fun k hk hnm => (hg.heap k (Nat.lt_of_lt_of_le hk s.size)).trans (s.heap k hk hnm), fun l j => (hρ (l + 1) j (by omega)).trans (s.up l j), fun k hk => (hg.U k (Nat.lt_of_lt_of_le hk s.size)).trans (s.U k hk), fun j u k hu hk => ?_⟩
              by_cases hj : (S.tp i).length ≤ j ∧ j < (S.tp (i + 1)).length
              · exact .inl (Nat.le_trans s.size (hfr j u k hj.1 hj.2 hu hk))
              · rw [hρ 0 j (by omega)] at hu; exact s.fresh j u k hu hk
            refine ih _ m' _ (next L m a i o hL ho hr hn m' v hg.keep hsince hv ⟨c, hc, inv_join hpre p1 h1 hg hρ hfr hi', fun j hj => ?_, h3, fun k ok hk hpk h hd => ?_, fun k ok hk hpk h hd => ?_⟩) hcount'
            · have := p1.length_le
              rw [hρ 0 j (by omega)]; exact h2 j hj
            · rcases (hdn k).1 hd with rfl | hd
              · omega
              · exact h4 k ok hk hpk h hd
            · obtain ⟨q1, q2⟩ := h5 k ok hk hpk h (fun hd' => hd ((hdn k).2 (.inr hd')))
              refine ⟨q1, fun j hj1 hj2 => ?_⟩
              rw [hρ 0 j ?_]
              · exact q2 j hj1 hj2
              · rintro ⟨_, a1, a2⟩
                have hki : k ≠ i := fun e => hd ((hdn k).2 (.inl e))
                have mono : ∀ x y, x ≤ y → y ≤ c → (S.tp x).length ≤ (S.tp y).length := fun x y hxy hyc => by
                  have := (tp_prefix hS (y - x) x (by omega) (fun j oj h6 h7 hj => late_no hlate (by omega) hj)).length_le
                  rwa [show x + (y - x) = y by omega] at this
                rcases Nat.lt_or_ge k i with h6 | h6
                · have := mono (k + 1) i (by omega) (by omega); omega
                · have := mono (i + 1) k (by omega) (by omega); omega
          · -- in the tail
            obtain ⟨t1, t2⟩ := tail hp hci
            refine s.act hw m a (by rw [t2]; exact h1) hev (fun j hj => h2 j (by rwa [t2] at hj)) _ Q fun v m' hT hρ hfr hI hv => ?_
            have hinv : Inv m (S.tp i) H := by rw [t2]; exact h1
            have hs0 : St H m0 m { tmps := #[], defers := [] } [] (S.tp i) := ⟨hinv, rfl, fun j p v hp => by simp at hp, rfl, fun j hj => h2 j (by rwa [t2] at hj), hL.since⟩
            have hs1 := hs0.turn hT s.len hρ hfr hI
            refine ih _ m' _ (next L m a i o hL ho hr hn m' v (hT.keep hinv) hs1.since hv ⟨i + 1, by omega, hI, hs1.free, fun k ok hk h => h3 k ok hk (by omega), fun k ok hk hpk h hd => ?_, fun k ok hk hpk h hd => ?_⟩) hcount'
            · rcases (hdn k).1 hd with rfl | hd
              · omega
              · exact h4 k ok hk hpk (by omega) hd
            · exfalso
              rcases Nat.lt_or_ge k i with h6 | h6
              · exact hd ((hdn k).2 (.inr (t1 k ok h6 hk hpk)))
              · exact hd ((hdn k).2 (.inl (by omega)))
end

theorem late_first (gv : List Nat) (ops : List Oper) : ∃ c, c ≤ ops.length ∧ (∀ (i : Nat) o, ops[i]? = some o → c ≤ i → lateB gv ops i = true) ∧ (0 < c → lateB gv ops (c - 1) = false) := by
  have mono : ∀ i j, i ≤ j → lateB gv ops i = true → lateB gv ops j = true := by
    intro i j hij h
    unfold lateB at h ⊢
    rw [List.any_eq_true] at h ⊢
    obtain ⟨x, hx, h⟩ := h
    refine ⟨x, ?_, h⟩
    have : ops.take (i + 1) <+: ops.take (j + 1) := List.take_prefix_take_left (by omega)
    exact this.subset hx
  have : ∀ n, n ≤ ops.length → ∃ c, c ≤ n ∧ (∀ (i : Nat), i < n → c ≤ i → lateB gv ops i = true) ∧ (0 < c → lateB gv ops (c - 1) = false) := by
    intro n
    induction n with
    | zero => intro _; exact ⟨0, Nat.le_refl _, fun i hi => by omega, fun h => by omega⟩
    | succ n ih =>
      intro hn
      obtain ⟨c, h1, h2, h3⟩ := ih (by omega)
      cases hl : lateB gv ops n with
      | true =>
        refine ⟨c, by omega, fun i hi hc => ?_, h3⟩
        rcases Nat.lt_or_ge i n with h | h
        · exact h2 i h hc
        · exact mono n i h hl
      | false => exact ⟨n + 1, Nat.le_refl _, fun i hi hc => by omega, fun _ => hl⟩
  obtain ⟨c, h1, h2, h3⟩ := this ops.length (Nat.le_refl _)
  exact ⟨c, h1, fun i o ho hc => h2 i (List.getElem?_eq_some_iff.1 ho).1 hc, h3⟩

theorem inv_extend {m : M} {t t' : List Blk} (h : t <+: t') {H : List (List Blk)} (hi : Inv m t H) (hf : ∀ j, t.length ≤ j → m.ρ 0 j = none) : Inv m t' H := by
  have get : ∀ l i b v, getB t' H l i = some b → m.ρ l i = some v → getB t H l i = some b := by
    intro l i b v hb hv
    cases l with
    | succ l => exact hb
    | zero =>
      rcases Nat.lt_or_ge i t.length with h1 | h1
      · have := pre_get h (List.getElem?_eq_getElem h1)
        simp only [getB] at hb ⊢
        rw [this] at hb
        rw [List.getElem?_eq_getElem h1]; exact hb
      · rw [hf i h1] at hv; cases hv
  refine ⟨fun l i b hb => ?_, fun l i b l' i' b' v v' k h1 h2 h3 h4 h5 h6 => hi.inj l i b l' i' b' v v' k (get l i b v h1 h5) h2 (get l' i' b' v' h3 h6) h4 h5 h6, fun l i b v k h1 h2 h3 => hi.own l i b v k (get l i b v h1 h3) h2 h3, hi.lt⟩
  cases hv : m.ρ l i with
  | some v => exact hi.blk l i b (get l i b v hb hv)
  | none => cases b <;> first | trivial | (intro v h; rw [hv] at h; cases h)

theorem draw_spec {C : Cx} (hC : C.Ok) {H : List (List Blk)} {ops : List Oper} {id : Nat} (hd : drawOk C.give ops.toArray = true) {m0 : M0} {m : M} {a : Act} {tm : List PV} {top : List Blk} {K : List PV → List Blk → Prop} {Q : Exit → Act → World → Prop}
    (hQ : ∀ m a tm top, K tm top → St H m0 m a tm top → Q .normal a m.w) (hk : opsK C H ops ops tm top K) (hs : St H m0 m a tm top) : (Code.region id ops.toArray true).wp C.P Q a m.w := by
  obtain ⟨T, hD⟩ := drawOk_spec hd
  obtain ⟨S, e1, e2, hK, hS⟩ := canon hC ops tm top hk
  subst e1; subst e2
  have hs := hs.draw (m.w.drawn + 1)
  have hnone : ∀ i, ¬ Dn (Array.replicate ops.length false) i := fun i h => by
    unfold Dn at h
    rcases Nat.lt_or_ge i ops.length with h' | h' <;> simp [h'] at h
  refine wp_region_any hC.mix ?_
  have hsz : ops.toArray.size = ops.length := by simp
  rw [hsz]
  obtain ⟨c, hc, hc1, hc2⟩ := late_first C.give ops
  refine any_spec hS hD (fun m a h => hQ m a _ _ hK h) _ _ ⟨{ m.w with drawn := m.w.drawn + 1 }, m.ρ, m.U⟩ a ⟨by simp, fun j o ho h => absurd h (hnone j), hs.size, fun t i p v hi hst hp hv => ?_, hs.defers, hs.since, c, hc, ?_, ?_, hc1, fun i o ho hp hci => hnone i, fun i o ho hp hci hn => ⟨hc2 (by omega), fun j hj1 hj2 => ?_⟩⟩ (by simp)
  · have hlt : t < (S.tc 0).length := by rw [← tc_len hS i hi]; exact (List.getElem?_eq_some_iff.1 hp).1
    obtain ⟨q, hq, h1⟩ := tm_mono hS (t := t) i 0 (by omega) (fun j o h1 h2 ho hdt => hnone j ((hst j o ho hdt).1 (by omega))) _ (List.getElem?_eq_getElem hlt)
    rw [Nat.zero_add, hp] at hq; cases hq
    exact h1 _ _ (hs.rel t _ v (List.getElem?_eq_getElem hlt) hv)
  · have hp : S.tp 0 <+: S.tp c := by
      have := tp_prefix hS c 0 (by omega) (fun j o h1 h2 ho => late_no (hc2 (by omega)) (by omega) ho)
      rwa [Nat.zero_add] at this
    exact inv_extend hp hs.inv hs.free
  · have hp : S.tp 0 <+: S.tp c := by
      have := tp_prefix hS c 0 (by omega) (fun j o h1 h2 ho => late_no (hc2 (by omega)) (by omega) ho)
      rwa [Nat.zero_add] at this
    exact fun j hj => hs.free j (Nat.le_trans hp.length_le hj)
  · have hp : S.tp 0 <+: S.tp i := by
      have := tp_prefix hS i 0 (by omega) (fun j o h1 h2 ho => late_no (hc2 (by omega)) (by omega) ho)
      rwa [Nat.zero_add] at this
    exact hs.free j (Nat.le_trans hp.length_le hj1)
end Go.Proofs.Ve
