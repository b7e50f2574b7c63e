/- Whatever order is drawn, the region comes to the same. -/
import Derived.Test.YtpmhiiembbfbeaaV16
set_option linter.all false
namespace Go.Proofs.Ve
open Go

/-! ### what drawOk says -/
theorem testBit_anc {T : List Nat} : ∀ (l : List Edge) (s i : Nat), (l.foldl (fun s e => bif Region.binds .any e then Nat.lor (Nat.lor s (Nat.shiftLeft 1 e.on)) (T.getD e.on 0) else s) s).testBit i = true →
    s.testBit i = true ∨ ∃ e ∈ l, Region.binds .any e = true ∧ (e.on = i ∨ (T.getD e.on 0).testBit i = true)
  | [], s, i, h => .inl h
  | e :: l, s, i, h => by
    rw [List.foldl_cons] at h
    rcases testBit_anc l _ i h with h1 | ⟨e', he, h1⟩
    · cases hb : Region.binds .any e with
      | false => rw [hb] at h1; exact .inl h1
      | true =>
        rw [hb] at h1
        change ((s ||| (1 <<< e.on)) ||| T.getD e.on 0).testBit i = true at h1
        simp only [Nat.testBit_or, Bool.or_eq_true, Nat.testBit_shiftLeft] at h1
        rcases h1 with (h1 | h1) | h1
        · exact .inl h1
        · simp only [Bool.and_eq_true, decide_eq_true_eq] at h1
          obtain ⟨h2, h3⟩ := h1
          have : i - e.on = 0 := by
            rcases Nat.eq_zero_or_pos (i - e.on) with h | h
            · exact h
            · exfalso
              obtain ⟨k, hk⟩ : ∃ k, i - e.on = k + 1 := ⟨i - e.on - 1, by omega⟩
              rw [hk] at h3
              simp [Nat.testBit_succ] at h3
          exact .inr ⟨e, List.mem_cons_self, hb, .inl (by omega)⟩
        · exact .inr ⟨e, List.mem_cons_self, hb, .inr h1⟩
    · exact .inr ⟨e', List.mem_cons_of_mem _ he, h1⟩

structure Drawn (gv : List Nat) (ops : List Oper) (T : List Nat) : Prop where
  back : ∀ (j : Nat) o, ops[j]? = some o → ∀ e ∈ o.after, Region.binds .any e = true → e.on < j
  bit : ∀ (j : Nat) o, ops[j]? = some o → ∀ i, bitB T j i = true → ∃ e ∈ o.after, Region.binds .any e = true ∧ (e.on = i ∨ bitB T e.on i = true)
  pair : ∀ (i j : Nat) oi oj, i < j → ops[i]? = some oi → ops[j]? = some oj → bitB T j i = true ∨ (oi.apart ops.toArray oj = true ∧ (pureOp oi.op = true ∨ pureOp oj.op = true ∨ lateB gv ops j = false))
theorem drawOk_spec {gv : List Nat} {ops : List Oper} (h : drawOk gv ops.toArray = true) : ∃ T, Drawn gv ops T := by
  unfold drawOk at h
  generalize ancs ops.toArray.toList = T at h
  refine ⟨T, ?_⟩
  unfold drawAt at h
  rw [List.all_eq_true] at h
  have H : ∀ (j : Nat) o, ops[j]? = some o → _ := fun j o ho => by
    have := h j (List.mem_range.2 (by simpa using (List.getElem?_eq_some_iff.1 ho).1))
    simp only [List.getElem?_toArray, ho, Bool.and_eq_true] at this
    exact this
  refine ⟨fun j o ho e he hb => ?_, fun j o ho i hi => ?_, fun i j oi oj hij hi hj => ?_⟩
  · have := Array.all_eq_true_iff_forall_mem.1 (H j o ho).1.1 e he
    rw [hb] at this
    simpa [Nat.blt_eq] using this
  · have h1 := Nat.eq_of_beq_eq_true (H j o ho).1.2
    unfold bitB at hi
    rw [h1] at hi
    rcases testBit_anc _ _ _ hi with h2 | ⟨e, he, h2⟩
    · simp at h2
    · exact ⟨e, by simpa using he, h2⟩
  · have h1 := List.all_eq_true.1 (H j oj hj).2 i (List.mem_range.2 hij)
    simp only [hi, Bool.or_eq_true, Bool.and_eq_true, Bool.not_eq_true'] at h1
    rcases h1 with h1 | ⟨h1, h2⟩
    · exact .inl h1
    · exact .inr ⟨h1, by rcases h2 with (h2 | h2) | h2 <;> simp [h2]⟩

/-! ### the done ones -/
def Dn (L : Array Bool) (i : Nat) : Prop := L.getD i false = true
theorem dn_set {L : Array Bool} {i : Nat} (hi : i < L.size) (j : Nat) : Dn (L.setIfInBounds i true) j ↔ j = i ∨ Dn L j := by
  unfold Dn
  by_cases h : i = j
  · subst h; simp [hi]
  · rw [getD_set_ne false h]
    constructor
    · exact .inr
    · rintro (rfl | h2)
      · exact absurd rfl h
      · exact h2
def Closed (ops : List Oper) (L : Array Bool) : Prop := ∀ (j : Nat) o, ops[j]? = some o → Dn L j → ∀ e ∈ o.after, Region.binds .any e = true → Dn L e.on
/-- ready: what it waits for is done -/
def Rdy (ops : List Oper) (L : Array Bool) (j : Nat) : Prop := ∃ o, ops[j]? = some o ∧ ∀ e ∈ o.after, Region.binds .any e = true → Dn L e.on
theorem bit_done {gv : List Nat} {ops : List Oper} {T : List Nat} (hD : Drawn gv ops T) {L : Array Bool} (hC : Closed ops L) : ∀ (n j : Nat), j < n → Rdy ops L j → ∀ i, bitB T j i = true → Dn L i := by
  intro n
  induction n with
  | zero => intro j hj; omega
  | succ n ih =>
    intro j hj ⟨o, ho, hr⟩ i hi
    obtain ⟨e, he, hb, h⟩ := hD.bit j o ho i hi
    have hd := hr e he hb
    rcases h with h | h
    · rw [← h]; exact hd
    · have hlt := hD.back j o ho e he hb
      have hlen : e.on < ops.length := by have := (List.getElem?_eq_some_iff.1 ho).1; omega
      exact ih e.on (by omega) ⟨_, List.getElem?_eq_getElem hlen, hC e.on _ (List.getElem?_eq_getElem hlen) hd⟩ i h
theorem done_bit {gv : List Nat} {ops : List Oper} {T : List Nat} (hD : Drawn gv ops T) {L : Array Bool} (hC : Closed ops L) {j : Nat} {o : Oper} (ho : ops[j]? = some o) (hd : Dn L j) {i : Nat} (hi : bitB T j i = true) : Dn L i :=
  bit_done hD hC (j + 1) j (Nat.lt_succ_self j) ⟨o, ho, hC j o ho hd⟩ i hi

theorem tm_mono {C : Cx} {H : List (List Blk)} {ops : List Oper} {S : Seqn} (hS : ∀ (k : Nat) o, ops[k]? = some o → StpOk C H ops o (S.w k) (S.pv k) (S.tc k) (S.tr k) (S.tc (k + 1)) (S.tp k) (S.tp (k + 1))) {t : Nat} :
    ∀ (n i : Nat), i + n ≤ ops.length → (∀ (j : Nat) o, i ≤ j → j < i + n → ops[j]? = some o → o.dst ≠ some t) → ∀ p, (S.tc i)[t]? = some p → ∃ q, (S.tc (i + n))[t]? = some q ∧ ∀ m v, RP m p v → RP m q v := by
  intro n
  induction n with
  | zero => intro i _ _ p hp; exact ⟨p, hp, fun _ _ h => h⟩
  | succ n ih =>
    intro i hl hno p hp
    have hi : i < ops.length := by omega
    have ho : ops[i]? = some ops[i] := List.getElem?_eq_getElem hi
    have s := hS i _ ho
    obtain ⟨q, hq, h1⟩ := s.le.2 t p hp
    have hq' : (S.tc (i + 1))[t]? = some q := by
      rcases s.next with ⟨_, h⟩ | ⟨d, hd, _, h⟩
      · rw [h]; exact hq
      · rw [h, List.getElem?_set_ne]
        · exact hq
        · rintro rfl
          exact hno i _ (Nat.le_refl _) (by omega) ho hd
    obtain ⟨r, hr, h2⟩ := ih (i + 1) (by omega) (fun j o h3 h4 => hno j o (by omega) (by omega)) q hq'
    exact ⟨r, by rw [show i + (n + 1) = i + 1 + n by omega]; exact hr, fun m v h => h2 m v (h1 m v h)⟩
theorem tc_len {C : Cx} {H : List (List Blk)} {ops : List Oper} {S : Seqn} (hS : ∀ (k : Nat) o, ops[k]? = some o → StpOk C H ops o (S.w k) (S.pv k) (S.tc k) (S.tr k) (S.tc (k + 1)) (S.tp k) (S.tp (k + 1))) : ∀ (i : Nat), i ≤ ops.length → (S.tc i).length = (S.tc 0).length := by
  intro i
  induction i with
  | zero => intro _; rfl
  | succ i ih =>
    intro hi
    have s := hS i _ (List.getElem?_eq_getElem (by omega : i < ops.length))
    rw [← ih (by omega), s.le.1]
    rcases s.next with ⟨_, h⟩ | ⟨d, _, _, h⟩ <;> rw [h] <;> simp

/-- what stays the same in top -/
theorem tp_same {C : Cx} {H : List (List Blk)} {ops : List Oper} {S : Seqn} (hS : ∀ (k : Nat) o, ops[k]? = some o → StpOk C H ops o (S.w k) (S.pv k) (S.tc k) (S.tr k) (S.tc (k + 1)) (S.tp k) (S.tp (k + 1))) :
    ∀ (n i : Nat), i + n ≤ ops.length → (∀ (j : Nat) o, i ≤ j → j < i + n → ops[j]? = some o → pureOp o.op = true) → S.tp (i + n) = S.tp i := by
  intro n
  induction n with
  | zero => intro i _ _; rfl
  | succ n ih =>
    intro i hl hp
    have ho : ops[i]? = some ops[i] := List.getElem?_eq_getElem (by omega)
    have s := hS i _ ho
    rw [show i + (n + 1) = i + 1 + n by omega, ih (i + 1) (by omega) (fun j o h1 h2 => hp j o (by omega) (by omega))]
    cases hw : S.w i with
    | true => exact (s.pure hw (hp i _ (Nat.le_refl _) (by omega) ho)).1
    | false => exact (s.skip hw).2
theorem tp_prefix {C : Cx} {H : List (List Blk)} {ops : List Oper} {S : Seqn} (hS : ∀ (k : Nat) o, ops[k]? = some o → StpOk C H ops o (S.w k) (S.pv k) (S.tc k) (S.tr k) (S.tc (k + 1)) (S.tp k) (S.tp (k + 1))) :
    ∀ (n i : Nat), i + n ≤ ops.length → (∀ (j : Nat) o, i ≤ j → j < i + n → ops[j]? = some o → Op.turns C.give o.op = false) → S.tp i <+: S.tp (i + n) := by
  intro n
  induction n with
  | zero => intro i _ _; exact List.prefix_refl _
  | succ n ih =>
    intro i hl hp
    have ho : ops[i]? = some ops[i] := List.getElem?_eq_getElem (by omega)
    have s := hS i _ ho
    rw [show i + (n + 1) = i + 1 + n by omega]
    refine List.IsPrefix.trans ?_ (ih (i + 1) (by omega) (fun j o h1 h2 => hp j o (by omega) (by omega)))
    cases hw : S.w i with
    | true => exact (s.op hw (hp i _ (Nat.le_refl _) (by omega) ho)).1
    | false => rw [(s.skip hw).2]; exact List.prefix_refl _

theorem pre_get {α : Type} {t t' : List α} (h : t <+: t') {i : Nat} {b : α} (hb : t[i]? = some b) : t'[i]? = some b := by
  obtain ⟨s, rfl⟩ := h
  rw [List.getElem?_append_left (List.getElem?_eq_some_iff.1 hb).1]
  exact hb
theorem getB_prefix {t t' : List Blk} (h : t <+: t') {H : List (List Blk)} {l i : Nat} {b : Blk} (hb : getB t H l i = some b) : getB t' H l i = some b := by
  cases l with
  | zero => exact pre_get h hb
  | succ l => exact hb
theorem inv_prefix {m : M} {t t' : List Blk} (h : t <+: t') {H : List (List Blk)} (hi : Inv m t' H) : Inv m t H :=
  ⟨fun l i b hb => hi.blk l i b (getB_prefix h hb), fun l i b l' i' b' v v' k h1 h2 h3 h4 => hi.inj l i b l' i' b' v v' k (getB_prefix h h1) h2 (getB_prefix h h3) h4,
   fun l i b v k h1 h2 => hi.own l i b v k (getB_prefix h h1) h2, hi.lt⟩
/-- One made its blocks out of turn. -/
theorem inv_join {m m' : M} {t0 t1 t : List Blk} (h01 : t0 <+: t1) (h1 : t1 <+: t) {H : List (List Blk)} (hi : Inv m t H) (hg : Grow m m') (hρ : ∀ l j, ¬ (l = 0 ∧ t0.length ≤ j ∧ j < t1.length) → m'.ρ l j = m.ρ l j)
    (hfr : ∀ j u k, t0.length ≤ j → j < t1.length → m'.ρ 0 j = some u → blkOf u = some k → m.w.heap.size ≤ k) (hi' : Inv m' t1 H) : Inv m' t H := by
  have get : ∀ l i b, getB t H l i = some b → (l = 0 ∧ t0.length ≤ i ∧ i < t1.length ∧ getB t1 H l i = some b) ∨ (¬ (l = 0 ∧ t0.length ≤ i ∧ i < t1.length)) := by
    intro l i b hb
    by_cases h : l = 0 ∧ t0.length ≤ i ∧ i < t1.length
    · obtain ⟨rfl, h2, h3⟩ := h
      refine .inl ⟨rfl, h2, h3, ?_⟩
      have := pre_get h1 (List.getElem?_eq_getElem h3)
      simp only [getB] at hb ⊢
      rw [this] at hb
      rw [List.getElem?_eq_getElem h3]; exact hb
    · exact .inr h
  have old : ∀ l i b v k, getB t H l i = some b → b.live = true → ¬ (l = 0 ∧ t0.length ≤ i ∧ i < t1.length) → m'.ρ l i = some v → blkOf v = some k → m.ρ l i = some v ∧ k < m.w.heap.size ∧ m.U k := by
    intro l i b v k hb hl hn hv hk
    rw [hρ l i hn] at hv
    have := hi.own l i b v k hb hl hv hk
    exact ⟨hv, hi.lt k this, this⟩
  refine ⟨fun l i b hb => ?_, fun l i b l' i' b' v v' k hb hl hb' hl' hv hv' hk hk' => ?_, fun l i b v k hb hl hv hk => ?_, hi'.lt⟩
  · rcases get l i b hb with ⟨_, _, _, h⟩ | h
    · exact hi'.blk l i b h
    · exact (hi.blk l i b hb).keep hg.keep (hρ l i h) (fun v k hl hv hk => hg.heap k (hi.lt k (hi.own l i b v k hb hl hv hk)))
  · rcases get l i b hb with ⟨rfl, a1, a2, a3⟩ | h <;> rcases get l' i' b' hb' with ⟨rfl, b1, b2, b3⟩ | h'
    · exact hi'.inj 0 i b 0 i' b' v v' k a3 hl b3 hl' hv hv' hk hk'
    · exfalso
      have := hfr i v k a1 a2 hv hk
      have := (old l' i' b' v' k hb' hl' h' hv' hk').2.1
      omega
    · exfalso
      have := hfr i' v' k b1 b2 hv' hk'
      have := (old l i b v k hb hl h hv hk).2.1
      omega
    · exact hi.inj l i b l' i' b' v v' k hb hl hb' hl' (old l i b v k hb hl h hv hk).1 (old l' i' b' v' k hb' hl' h' hv' hk').1 hk hk'
  · rcases get l i b hb with ⟨_, _, _, h⟩ | h
    · exact hi'.own l i b v k h hl hv hk
    · obtain ⟨h2, h3, h4⟩ := old l i b v k hb hl h hv hk
      exact (hg.U k h3).2 h4

/-- t, at its stage i -/
def Stage (ops : List Oper) (L : Array Bool) (t i : Nat) : Prop := ∀ (j : Nat) o, ops[j]? = some o → o.dst = some t → (j < i ↔ Dn L j)
structure Some1 (C : Cx) (H : List (List Blk)) (ops : List Oper) (S : Seqn) (m0 : M0) (m : M) (a : Act) (L : Array Bool) : Prop where
  len : L.size = ops.length
  closed : Closed ops L
  size : a.tmps.size = (S.tc 0).length
  vals : ∀ (t i : Nat) p v, i ≤ ops.length → Stage ops L t i → (S.tc i)[t]? = some p → a.tmps[t]? = some v → RP m p v
  defers : a.defers = []
  since : Since m0 m
  phase : ∃ c, c ≤ ops.length ∧ Inv m (S.tp c) H ∧ (∀ j, (S.tp c).length ≤ j → m.ρ 0 j = none) ∧ (∀ (i : Nat) o, ops[i]? = some o → c ≤ i → lateB C.give ops i = true) ∧
    (∀ (i : Nat) o, ops[i]? = some o → pureOp o.op = false → c ≤ i → ¬ Dn L i) ∧
    (∀ (i : Nat) o, ops[i]? = some o → pureOp o.op = false → i < c → ¬ Dn L i → lateB C.give ops (c - 1) = false ∧ ∀ j, (S.tp i).length ≤ j → j < (S.tp (i + 1)).length → m.ρ 0 j = none)

theorem late_no {gv : List Nat} {ops : List Oper} {c : Nat} (h : lateB gv ops (c - 1) = false) {j : Nat} {o : Oper} (hj : j < c) (ho : ops[j]? = some o) : Op.turns gv o.op = false := by
  unfold lateB at h
  rw [List.any_eq_false] at h
  have : o ∈ ops.take (c - 1 + 1) := List.mem_of_getElem? (i := j) (by rw [List.getElem?_take_of_lt (by omega)]; exact ho)
  simpa using h o this

section
variable {C : Cx} {H : List (List Blk)} {ops : List Oper} {S : Seqn} {T : List Nat} {m0 : M0} {m : M} {a : Act} {L : Array Bool}
/-- what a ready operation looks at is as it was in the text's order -/
theorem stage_of (hD : Drawn C.give ops T) (hL : Some1 C H ops S m0 m a L) {i : Nat} {o : Oper} (ho : ops[i]? = some o) (hr : Rdy ops L i) (hn : ¬ Dn L i) {t : Nat} (ht : t ∈ o.looksAt ops.toArray) : Stage ops L t i := by
  intro j oj hj hd
  rcases Nat.lt_trichotomy j i with h | h | h
  · refine ⟨fun _ => ?_, fun _ => h⟩
    rcases hD.pair j i oj o h hj ho with hb | ⟨hap, _⟩
    · exact bit_done hD hL.closed (i + 1) i (Nat.lt_succ_self i) hr j hb
    · exact absurd ht ((Oper.apart_spec hap).1 t hd)
  · subst h
    exact ⟨fun h => absurd h (Nat.lt_irrefl _), fun h => absurd h hn⟩
  · refine ⟨fun h' => by omega, fun hdn => ?_⟩
    rcases hD.pair i j o oj h ho hj with hb | ⟨hap, _⟩
    · exact absurd (done_bit hD hL.closed hj hdn hb) hn
    · exact absurd ht ((Oper.apart_spec hap).2.2 t hd)

theorem closed_set (hL : L.size = ops.length) (hc : Closed ops L) {i : Nat} (hr : Rdy ops L i) : Closed ops (L.setIfInBounds i true) := by
  obtain ⟨o, ho, hr⟩ := hr
  have hi : i < L.size := by rw [hL]; exact (List.getElem?_eq_some_iff.1 ho).1
  intro j oj hj hd e he hb
  rw [dn_set hi] at hd ⊢
  rcases hd with rfl | hd
  · rw [ho] at hj; cases hj
    exact .inr (hr e he hb)
  · exact .inr (hc j oj hj hd e he hb)

/-- the temporaries after an operation out of turn -/
theorem vals_set (hS : ∀ (k : Nat) o, ops[k]? = some o → StpOk C H ops o (S.w k) (S.pv k) (S.tc k) (S.tr k) (S.tc (k + 1)) (S.tp k) (S.tp (k + 1))) (hD : Drawn C.give ops T) (hL : Some1 C H ops S m0 m a L) {i : Nat} {o : Oper} (ho : ops[i]? = some o)
    (hn : ¬ Dn L i) {m' : M} (hK : Keep m m') {v : Value} (hv : RP m' (S.pv i) v) :
    ∀ (t k : Nat) p u, k ≤ ops.length → Stage ops (L.setIfInBounds i true) t k → (S.tc k)[t]? = some p → (a.put o.dst v).tmps[t]? = some u → RP m' p u := by
  intro t k p u hk hst hp hu
  have hi : i < L.size := by rw [hL.len]; exact (List.getElem?_eq_some_iff.1 ho).1
  have hil : i < ops.length := (List.getElem?_eq_some_iff.1 ho).1
  by_cases hd : o.dst = some t
  · have hik : i < k := (hst i o ho hd).2 ((dn_set hi i).2 (.inl rfl))
    have hlt : t < (S.tc k).length := (List.getElem?_eq_some_iff.1 hp).1
    have hut : u = v := by
      rw [hd] at hu
      simp only [Act.put] at hu
      have : t < a.tmps.size := by have := (Array.getElem?_eq_some_iff.1 hu).1; simpa using this
      simp [this] at hu
      exact hu.symm
    subst hut
    have h1 : (S.tc (i + 1))[t]? = some (S.pv i) := by
      rcases (hS i o ho).next with ⟨h, _⟩ | ⟨d, h, hlt', h2⟩
      · rw [h] at hd; cases hd
      · rw [hd] at h; cases h
        rw [h2]; simp [hlt']
    obtain ⟨q, hq, h2⟩ := tm_mono hS (t := t) (k - (i + 1)) (i + 1) (by omega) (fun j oj h3 h4 hj hjd => by
      have h5 : Dn L j := by
        rcases (dn_set hi j).1 ((hst j oj hj hjd).1 (by omega)) with h | h
        · omega
        · exact h
      rcases hD.pair i j o oj (by omega) ho hj with hb | ⟨hap, _⟩
      · exact hn (done_bit hD hL.closed hj h5 hb)
      · exact (Oper.apart_spec hap).2.1 t hd hjd) _ h1
    rw [show i + 1 + (k - (i + 1)) = k by omega] at hq
    rw [hp] at hq; cases hq
    exact h2 m' u hv
  · have hu' : a.tmps[t]? = some u := by
      unfold Act.put at hu
      split at hu
      · rename_i d hd'
        rw [hd'] at hd
        have hne : d ≠ t := fun e => hd (by rw [e])
        rw [Array.getElem?_setIfInBounds_ne hne] at hu
        exact hu
      · exact hu
    refine (hL.vals t k p u hk (fun j oj hj hjd => ?_) hp hu').keep hK
    rw [hst j oj hj hjd, dn_set hi]
    constructor
    · rintro (rfl | h)
      · rw [ho] at hj; cases hj; exact absurd hjd hd
      · exact h
    · exact .inr
end
end Go.Proofs.Ve
