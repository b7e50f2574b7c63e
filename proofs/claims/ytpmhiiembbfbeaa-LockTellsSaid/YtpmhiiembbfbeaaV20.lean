/- Code and calls: what the value machine says of them is so. -/
import Derived.Test.YtpmhiiembbfbeaaV19
import Derived.Scope
set_option linter.all false
namespace Go.Proofs.Ve
open Go

def Post (H : List (List Blk)) (m0 : M0) (K : Exit → List PV → List Blk → Prop) : Exit → Act → World → Prop := fun e a w => ∃ tm top m, m.w = w ∧ K e tm top ∧ St H m0 m a tm top

theorem eval_of {H : List (List Blk)} {m0 : M0} {m : M} {a : Act} {tm : List PV} {top : List Blk} (hs : St H m0 m a tm top) {c : Operand} {p : PV} (hp : ev? tm c = some p) : RP m p (a.eval c) :=
  ev_rel (hs.evR [c]) (List.mem_singleton.2 rfl) hp

/-! ### orders laid down -/
def inB (dn : List Nat) (i : Nat) : Bool := dn.any (Nat.beq i)
def readyB (ops : List Oper) (dn : List Nat) (i : Nat) : Bool :=
  !inB dn i && (match ops[i]? with | some o => o.after.toList.all (fun e => !Region.binds .any e || inB dn e.on) | none => false)
def freeB (ops : List Oper) (dn : List Nat) (i : Nat) : Bool :=
  match ops[i]? with
  | none => false
  | some oi => pureOp oi.op && (List.range ops.length).all fun j => Nat.beq j i || inB dn j || (match ops[j]? with
    | some oj => oj.after.toList.any (fun e => Region.binds .any e && Nat.beq e.on i) || oi.apart ops.toArray oj
    | none => true)
def kidB : Tr → Nat → Bool
  | .alt i _ rest, j => Nat.beq i j || kidB rest j
  | _, _ => false
def noneB : Tr → Bool
  | .none => true
  | _ => false
def trB (ops : List Oper) : Tr → Bool → List Nat → Bool
  | .fin, _, dn => (List.range ops.length).all fun i => inB dn i
  | .none, head, _ => !head
  | .alt i sub rest, head, dn => readyB ops dn i && (trB ops sub true (i :: dn) && (trB ops rest false dn && (!head || ((freeB ops dn i && noneB rest) || (List.range ops.length).all fun j => !readyB ops dn j || kidB (.alt i sub rest) j))))
def trOk (ops : List Oper) (t : Tr) : Bool := Region.noSelect ops.toArray && trB ops t true []
noncomputable def moAt (mo : List (Nat × Tr)) (id : Nat) : Option Tr := List.rec (motive := fun _ => Option Tr) none (fun p _ ih => match Nat.beq p.1 id with | true => some p.2 | false => ih) mo
theorem moK_spec {mo : List (Nat × Tr)} {id : Nat} {f : Tr → Prop} {d : Prop} (h : moK mo id f d) : (∃ t, moAt mo id = some t ∧ f t) ∨ (moAt mo id = none ∧ d) := by
  induction mo with
  | nil => exact .inr ⟨rfl, h⟩
  | cons p mo ih =>
    change (match Nat.beq p.1 id with | true => f p.2 | false => moK mo id f d) at h
    change (∃ t, (match Nat.beq p.1 id with | true => some p.2 | false => moAt mo id) = some t ∧ f t) ∨ ((match Nat.beq p.1 id with | true => some p.2 | false => moAt mo id) = none ∧ d)
    cases hb : Nat.beq p.1 id with
    | true => rw [hb] at h; exact .inl ⟨_, rfl, h⟩
    | false => rw [hb] at h; exact ih h
def Tr.sz : Tr → Nat
  | .alt _ sub rest => sub.sz + rest.sz + 1
  | _ => 0
theorem trK_alt {C : Cx} {H : List (List Blk)} {ops : List Oper} {i : Nat} {sub rest : Tr} {K : List PV → List Blk → Prop} {tm : List PV} {top : List Blk} (h : trK C H ops (.alt i sub rest) K tm top) :
    opAtK C H ops i (trK C H ops sub K) tm top ∧ (noneB rest = false → trK C H ops rest K tm top) := by
  cases rest with
  | none => exact ⟨h, fun h => by cases h⟩
  | fin => exact ⟨h.1, fun _ => h.2⟩
  | alt j s r => exact ⟨h.1, fun _ => h.2⟩
theorem kid_of {C : Cx} {H : List (List Blk)} {ops : List Oper} {K : List PV → List Blk → Prop} {tm : List PV} {top : List Blk} {j : Nat} {dn : List Nat} : ∀ (t : Tr) (head : Bool), trB ops t head dn = true → kidB t j = true → trK C H ops t K tm top →
    ∃ sub, trB ops sub true (j :: dn) = true ∧ opAtK C H ops j (trK C H ops sub K) tm top ∧ sub.sz < t.sz
  | .fin, _, _, h, _ => by cases h
  | .none, _, _, h, _ => by cases h
  | .alt i sub rest, head, hb, hk, h => by
    simp only [trB, Bool.and_eq_true] at hb
    obtain ⟨h1, h2⟩ := trK_alt h
    simp only [kidB, Bool.or_eq_true] at hk
    rcases hk with hk | hk
    · obtain rfl := Nat.eq_of_beq_eq_true hk
      exact ⟨sub, hb.2.1, h1, by simp only [Tr.sz]; omega⟩
    · have hr : noneB rest = false := by cases rest <;> first | rfl | cases hk
      obtain ⟨s, a1, a2, a3⟩ := kid_of rest false hb.2.2.1 hk (h2 hr)
      exact ⟨s, a1, a2, by simp only [Tr.sz]; omega⟩
theorem inB_iff {dn : List Nat} {i : Nat} : inB dn i = true ↔ i ∈ dn := by
  unfold inB
  rw [List.any_eq_true]
  constructor
  · rintro ⟨x, hx, hb⟩; rw [Nat.eq_of_beq_eq_true hb]; exact hx
  · intro h; exact ⟨i, h, by simp⟩
theorem ready_iff {ops : List Oper} {dn : List Nat} {L : Array Bool} (hL : L.size = ops.length) (hd : ∀ i, i < ops.length → (Dn L i ↔ i ∈ dn)) (hdn : ∀ i ∈ dn, i < ops.length) (hb : ∀ (j : Nat) o, ops[j]? = some o → ∀ e ∈ o.after, Region.binds .any e = true → e.on < ops.length) (i : Nat) :
    i ∈ Region.ready .any ops.toArray L ↔ readyB ops dn i = true := by
  rw [mem_ready]
  unfold readyB
  cases ho : ops[i]? with
  | none => simp [ho]
  | some o =>
    have hi : i < ops.length := (List.getElem?_eq_some_iff.1 ho).1
    have h1 : L.getD i true = false ↔ ¬ i ∈ dn := by
      rw [← hd i hi]
      have : i < L.size := by omega
      unfold Dn
      simp [this]
    simp only [List.getElem?_toArray, ho, Bool.and_eq_true, Bool.not_eq_true', List.all_eq_true, Bool.or_eq_true, h1, Option.some.injEq, exists_eq_left']
    have h2 : inB dn i = false ↔ ¬ i ∈ dn := by rw [← inB_iff]; simp
    rw [h2]
    refine and_congr_right fun _ => ⟨fun h e he => ?_, fun h e he hbe => ?_⟩
    · cases hbe : Region.binds .any e with
      | false => exact .inl rfl
      | true => exact .inr (inB_iff.2 ((hd e.on (hb i o ho e (by simpa using he) hbe)).1 (h e (by simpa using he) hbe)))
    · rcases h e (by simpa using he) with h | h
      · rw [hbe] at h; cases h
      · exact (hd e.on (hb i o ho e he hbe)).2 (inB_iff.1 h)
/-- one operation, and what follows -/
theorem opAt_wp {C : Cx} (hC : C.Ok) {H : List (List Blk)} {ops : List Oper} {i : Nat} {K : List PV → List Blk → Prop} {tm : List PV} {top : List Blk} (h : opAtK C H ops i K tm top) {m0 : M0} {m : M} {a : Act} (hs : St H m0 m a tm top)
    {Q : Exit → Act → World → Prop} {next : Act → World → Prop} (hn : ∀ m' a' tm' top', K tm' top' → St H m0 m' a' tm' top' → next a' m'.w) : wpOp C.P ops.toArray Q i next a m.w := by
  obtain ⟨o, ho, h⟩ := getK_spec.1 h
  obtain ⟨tm1, h, hs1, _⟩ := wantK_spec hs h
  unfold wpOp
  simp only [List.getElem?_toArray, ho]
  split
  · rename_i hw
    rw [hw] at h
    obtain ⟨pv, top', hk, hl', hA⟩ := actK_step hC h
    exact .inl (hA.wp hl' hs1 hk fun v m' tm' hk' hs' => hn m' _ tm' top' hk' hs')
  · rename_i hw
    have hw : Region.wanted o (Go.yielded ops.toArray a.tmps) = false := by simpa using hw
    rw [hw] at h
    obtain ⟨tm', hk', hs'⟩ := hs1.put (v := undef) (.tuple [] #[] rfl (fun j p v h => by simp at h)) h
    exact hn m _ tm' top hk' hs'
/-- a pure operation: what it yields in whatever world -/
theorem opAt_pure {C : Cx} (hC : C.Ok) {H : List (List Blk)} {ops : List Oper} {i : Nat} {o : Oper} (ho : ops[i]? = some o) (hp : pureOp o.op = true) {K : List PV → List Blk → Prop} {tm : List PV} {top : List Blk} (h : opAtK C H ops i K tm top) {m0 : M0} {m : M} {a : Act} (hs : St H m0 m a tm top) :
    ∃ v tm', Yields C.P ops.toArray o v a ∧ K tm' top ∧ St H m0 m (a.put o.dst v) tm' top := by
  obtain ⟨o', ho', h⟩ := getK_spec.1 h
  rw [ho] at ho'; cases ho'
  obtain ⟨tm1, h, hs1, _⟩ := wantK_spec hs h
  cases hw : Region.wanted o (Go.yielded ops.toArray a.tmps) with
  | true =>
    rw [hw] at h
    obtain ⟨pv, hk, hps⟩ := pure_step hC h hp
    obtain ⟨v, hrun, hv⟩ := hps m a (hs1.evR _)
    obtain ⟨tm', hk', hs'⟩ := hs1.put hv hk
    exact ⟨v, tm', .inl ⟨hw, hrun⟩, hk', hs'⟩
  | false =>
    rw [hw] at h
    obtain ⟨tm', hk', hs'⟩ := hs1.put (v := undef) (.tuple [] #[] rfl (fun j p v h => by simp at h)) h
    exact ⟨undef, tm', .inr ⟨hw, rfl⟩, hk', hs'⟩
theorem count_set {L : Array Bool} {i fuel : Nat} (hi : i < L.size) (hn : ¬ Dn L i) (hc : L.toList.count false = fuel + 1) : (L.setIfInBounds i true).toList.count false = fuel := by
  rw [Array.toList_setIfInBounds, List.count_set (by simpa using hi)]
  have hf : L.toList[i]'(by simpa using hi) = false := by
    unfold Dn at hn
    simpa [hi] using hn
  rw [hf, hc]; simp
theorem tr_any {C : Cx} (hC : C.Ok) {H : List (List Blk)} {ops : List Oper} (hsel : Region.noSelect ops.toArray = true) {m0 : M0} {K : List PV → List Blk → Prop} {R : Act → World → Prop} (hR : ∀ m a tm top, K tm top → St H m0 m a tm top → R a m.w)
    (hb : ∀ (j : Nat) o, ops[j]? = some o → ∀ e ∈ o.after, Region.binds .any e = true → e.on < ops.length) :
    ∀ (n : Nat) (t : Tr) (dn : List Nat) (L : Array Bool) (fuel : Nat) (m : M) (a : Act) (tm : List PV) (top : List Blk), t.sz < n → trB ops t true dn = true → L.size = ops.length → (∀ i, i < ops.length → (Dn L i ↔ i ∈ dn)) → (∀ i ∈ dn, i < ops.length) → trK C H ops t K tm top → St H m0 m a tm top → L.toList.count false = fuel →
      wpAny C.P .any ops.toArray (fun e a w => e = .normal ∧ R a w) fuel L a m.w := by
  intro n
  induction n with
  | zero => intro t dn L fuel m a tm top h; omega
  | succ n ih =>
    intro t dn L fuel m a tm top hsz ht hL hd hdn hk hs hc
    have hready := ready_iff hL hd hdn hb
    cases t with
    | none => cases ht
    | fin =>
      simp only [trB, List.all_eq_true, List.mem_range] at ht
      refine wpAny_done ?_ ⟨rfl, hR m a tm top hk hs⟩ fuel
      refine List.eq_nil_iff_forall_not_mem.2 fun i hi => ?_
      have h1 := (hready i).1 hi
      unfold readyB at h1
      simp only [Bool.and_eq_true, Bool.not_eq_true'] at h1
      have hil : i < ops.length := by
        cases ho : ops[i]? with
        | none => rw [ho] at h1; cases h1.2
        | some o => exact (List.getElem?_eq_some_iff.1 ho).1
      rw [ht i hil] at h1
      cases h1.1
    | alt i sub rest =>
      have ht' := ht
      simp only [trB, Bool.and_eq_true] at ht
      obtain ⟨hri, hsub, hrest, hhead⟩ := ht
      have hil : i < ops.length := by
        unfold readyB at hri
        cases ho : ops[i]? with
        | none => rw [ho] at hri; simp at hri
        | some o => exact (List.getElem?_eq_some_iff.1 ho).1
      have nd : ∀ j, readyB ops dn j = true → ¬ Dn L j ∧ j < ops.length := fun j hj => by
        unfold readyB at hj
        simp only [Bool.and_eq_true, Bool.not_eq_true'] at hj
        have hjl : j < ops.length := by
          cases ho : ops[j]? with
          | none => rw [ho] at hj; cases hj.2
          | some o => exact (List.getElem?_eq_some_iff.1 ho).1
        refine ⟨fun h => ?_, hjl⟩
        rw [inB_iff.2 ((hd j hjl).1 h)] at hj
        cases hj.1
      have upd : ∀ j, j < ops.length → (L.setIfInBounds j true).size = ops.length ∧ (∀ k, k < ops.length → (Dn (L.setIfInBounds j true) k ↔ k ∈ j :: dn)) ∧ ∀ k ∈ j :: dn, k < ops.length := fun j hj => by
        refine ⟨by simp [hL], fun k hk => ?_, fun k hk => ?_⟩
        · rw [dn_set (by omega), hd k hk, List.mem_cons]
        · cases hk with
          | head => exact hj
          | tail _ hk => exact hdn k hk
      obtain ⟨fuel', rfl⟩ : ∃ f, fuel = f + 1 := by
        cases fuel with
        | succ f => exact ⟨f, rfl⟩
        | zero =>
          exfalso
          rw [List.count_eq_zero] at hc
          have hi : i < L.size := by omega
          have := (nd i hri).1
          unfold Dn at this
          cases hv : L[i] with
          | true => exact this (by simp [hi, hv])
          | false => exact hc (List.mem_of_getElem? (i := i) (by simp [hi, hv]))
      simp only [Bool.not_true, Bool.false_or, Bool.or_eq_true] at hhead
      rcases hhead with hhead | hhead
      · simp only [Bool.and_eq_true] at hhead
        obtain ⟨hfree, hno⟩ := hhead
        obtain ⟨hk1, _⟩ := trK_alt hk
        obtain ⟨o, ho⟩ : ∃ o, ops[i]? = some o := ⟨_, List.getElem?_eq_getElem hil⟩
        unfold freeB at hfree
        rw [ho] at hfree
        simp only [Bool.and_eq_true, List.all_eq_true, List.mem_range] at hfree
        obtain ⟨hp, hfree⟩ := hfree
        obtain ⟨v, tm', hy, hk', hs'⟩ := opAt_pure hC ho hp hk1 hs
        obtain ⟨u1, u2, u3⟩ := upd i hil
        refine wpAny_first (by simpa using ho) (Region.noSelect_spec hsel) (fun c a w h => by cases h.1) fuel' L a m.w (fun j oj hj hne hun hnot => ?_) ((hready i).2 hri) hy (ih sub (i :: dn) _ fuel' m _ tm' top (by simp only [Tr.sz] at hsz; omega) hsub u1 u2 u3 hk' hs' (count_set (by omega) (nd i hri).1 hc))
        have hj' : ops[j]? = some oj := by simpa using hj
        have hjl := (List.getElem?_eq_some_iff.1 hj').1
        have := hfree j hjl
        rw [hj'] at this
        simp only [Bool.or_eq_true] at this
        rcases this with (h | h) | h | h
        · exact absurd (Nat.eq_of_beq_eq_true h) hne
        · exfalso
          have h1 := (hd j hjl).2 (inB_iff.1 h)
          have : j < L.size := by omega
          unfold Dn at h1
          simp [this] at h1 hun
          rw [h1] at hun; cases hun
        · exfalso
          rw [List.any_eq_true] at h
          obtain ⟨e, he, hbe⟩ := h
          simp only [Bool.and_eq_true] at hbe
          exact hnot e (by simpa using he) hbe.1 (Nat.eq_of_beq_eq_true hbe.2)
        · exact h
      · simp only [List.all_eq_true, List.mem_range, Bool.or_eq_true, Bool.not_eq_true'] at hhead
        refine ⟨fun h => ?_, fun j hj => ?_⟩
        · have := (hready i).2 hri
          rw [h] at this; cases this
        · have hrj := (hready j).1 hj
          obtain ⟨hnj, hjl⟩ := nd j hrj
          have hkid : kidB (.alt i sub rest) j = true := by
            rcases hhead j hjl with h | h
            · rw [hrj] at h; cases h
            · exact h
          obtain ⟨sub', b1, b2, b3⟩ := kid_of (.alt i sub rest) true ht' hkid hk
          obtain ⟨u1, u2, u3⟩ := upd j hjl
          exact opAt_wp hC b2 hs fun m' a' tm' top' hk' hs' => ih sub' (j :: dn) _ fuel' m' a' tm' top' (by omega) b1 u1 u2 u3 hk' hs' (count_set (by omega) hnj hc)
theorem after_lt {gv : List Nat} {ops : List Oper} {T : List Nat} (hD : Drawn gv ops T) : ∀ (j : Nat) o, ops[j]? = some o → ∀ e ∈ o.after, Region.binds .any e = true → e.on < ops.length := fun j o ho e he hb => by
  have := hD.back j o ho e he hb
  have := (List.getElem?_eq_some_iff.1 ho).1
  omega
def backB (ops : List Oper) : Bool := ops.all fun o => o.after.toList.all fun e => !Region.binds .any e || Nat.blt e.on ops.length
theorem tr_spec {C : Cx} (hC : C.Ok) {H : List (List Blk)} {ops : List Oper} {id : Nat} {t : Tr} (hd : (backB ops && trOk ops t) = true) {m0 : M0} {m : M} {a : Act} {tm : List PV} {top : List Blk} {K : List PV → List Blk → Prop} {Q : Exit → Act → World → Prop}
    (hQ : ∀ m a tm top, K tm top → St H m0 m a tm top → Q .normal a m.w) (hk : trK C H ops t K tm top) (hs : St H m0 m a tm top) : (Code.region id ops.toArray true).wp C.P Q a m.w := by
  simp only [trOk, Bool.and_eq_true] at hd
  obtain ⟨hb, hsel, ht⟩ := hd
  have hb' : ∀ (j : Nat) o, ops[j]? = some o → ∀ e ∈ o.after, Region.binds .any e = true → e.on < ops.length := fun j o ho e he hbe => by
    have h1 := List.all_eq_true.1 hb o (List.mem_of_getElem? ho)
    have h2 := List.all_eq_true.1 h1 e (by simpa using he)
    rw [hbe] at h2
    simpa [Nat.blt_eq] using h2
  have hs := hs.draw (m.w.drawn + 1)
  have hnone : ∀ i, ¬ Dn (Array.replicate ops.length false) i := fun i h => by
    unfold Dn at h
    rcases Nat.lt_or_ge i ops.length with h' | h' <;> simp [h'] at h
  refine wp_mono (wp_region_any hC.mix ?_) (Q := fun e a w => e = .normal ∧ Q .normal a w) ?_
  · have hsz : ops.toArray.size = ops.length := by simp
    rw [hsz]
    exact tr_any hC hsel (m0 := m0) (K := K) (R := fun a w => Q .normal a w) hQ hb' _ t [] (Array.replicate ops.length false) _ ⟨{ m.w with drawn := m.w.drawn + 1 }, m.ρ, m.U⟩ a tm top (Nat.lt_succ_self _) ht (by simp) (fun i hi => ⟨fun h => absurd h (hnone i), fun h => by cases h⟩) (fun i hi => by cases hi) hk hs (by simp)
  · rintro e a w ⟨rfl, h⟩; exact h

noncomputable def drawsM (gv : List Nat) (mo : List (Nat × Tr)) : Code → Bool
  | .region id ops draw => !draw || (match moAt mo id with | some t => backB ops.toList && trOk ops.toList t | none => drawOk gv ops)
  | .seq a b => drawsM gv mo a && drawsM gv mo b
  | .cond _ a b => drawsM gv mo a && drawsM gv mo b
  | .block _ a => drawsM gv mo a
  | .loop a => drawsM gv mo a
  | .scope a => drawsM gv mo a
  | _ => true
theorem draws_nil (gv : List Nat) : ∀ (c : Code), drawsM gv [] c = drawsOk gv c := by
  intro c
  induction c with
  | region id ops draw => rfl
  | seq a b iha ihb => simp only [drawsM, drawsOk, iha, ihb]
  | cond x a b iha ihb => simp only [drawsM, drawsOk, iha, ihb]
  | block id a ih => simp only [drawsM, drawsOk, ih]
  | loop a ih => simp only [drawsM, drawsOk, ih]
  | scope a ih => simp only [drawsM, drawsOk, ih]
  | _ => rfl

theorem wpC_sound {C : Cx} (hC : C.Ok) {H : List (List Blk)} {m0 : M0} {mo : List (Nat × Tr)} (c : Code) : ∀ (K : Exit → List PV → List Blk → Prop) (tm : List PV) (top : List Blk) (m : M) (a : Act), drawsM C.give mo c = true → wpM C H mo c K tm top → St H m0 m a tm top → c.wp C.P (Post H m0 K) a m.w := by
  induction c with
  | skip => intro K tm top m a _ h hs; exact wp_skip ⟨tm, top, m, rfl, h, hs⟩
  | label l => intro K tm top m a _ h hs; exact wp_label ⟨tm, top, m, rfl, h, hs⟩
  | exit id => intro K tm top m a _ h hs; exact wp_exit ⟨tm, top, m, rfl, h, hs⟩
  | ret => intro K tm top m a _ h hs; exact wp_ret ⟨tm, top, m, rfl, h, hs⟩
  | goto l => intro K tm top m a _ h hs; exact wp_goto ⟨tm, top, m, rfl, h, hs⟩
  | scope x ihx =>
    intro K tm top m a hd h hs
    refine wp_scope_straight (wp_mono (ihx _ tm top m a hd h hs) ?_)
    rintro e a' w ⟨tm', top', m', rfl, hk, hs'⟩
    cases e with
    | goto l => exact hk
    | _ => exact ⟨tm', top', m', rfl, hk, hs'⟩
  | region id ops draw =>
    intro K tm top m a hd h hs
    cases draw with
    | false =>
      refine wp_region ?_
      have := opsK_spec hC (m0 := m0) (Q := Post H m0 K) (K := fun tm' top' => K .normal tm' top') (fun m a tm top hk hs => ⟨tm, top, m, rfl, hk, hs⟩) ops.toList (List.range ops.size) tm top m a (by simp) (fun k i hi => by
        have : k < ops.size := by have := (List.getElem?_eq_some_iff.1 hi).1; simpa using this
        simp [this] at hi
        subst hi; rfl) h hs
      simpa using this
    | true =>
      rcases moK_spec (show moK mo id (fun t => trK C H ops.toList t (fun tm' top' => K .normal tm' top') tm top) (opsK C H ops.toList ops.toList tm top fun tm' top' => K .normal tm' top') from h) with ⟨t, ht, h⟩ | ⟨ht, h⟩
      · simp only [drawsM, ht, Bool.not_true, Bool.false_or] at hd
        have := tr_spec hC (ops := ops.toList) (id := id) (m0 := m0) (K := fun tm' top' => K .normal tm' top') (Q := Post H m0 K) hd (fun m a tm top hk hs => ⟨tm, top, m, rfl, hk, hs⟩) h hs
        simpa using this
      · simp only [drawsM, ht, Bool.not_true, Bool.false_or] at hd
        have := draw_spec hC (ops := ops.toList) (id := id) (m0 := m0) (K := fun tm' top' => K .normal tm' top') (Q := Post H m0 K) (by simpa using hd) (fun m a tm top hk hs => ⟨tm, top, m, rfl, hk, hs⟩) h hs
        simpa using this
  | seq x y ihx ihy =>
    intro K tm top m a hd h hs
    simp only [drawsM, Bool.and_eq_true] at hd
    refine wp_seq (wp_mono (ihx _ tm top m a hd.1 h hs) ?_)
    rintro e a' w ⟨tm', top', m', rfl, hk, hs'⟩
    cases e with
    | normal => exact ihy K tm' top' m' a' hd.2 hk hs'
    | _ => exact ⟨tm', top', m', rfl, hk, hs'⟩
  | cond c x y ihx ihy =>
    intro K tm top m a hd h hs
    simp only [drawsM, Bool.and_eq_true] at hd
    obtain ⟨p, hp, h⟩ := evK_ev h
    have hv := eval_of hs hp
    split at h
    · generalize hc : a.eval c = v at hv
      cases hv
      exact wp_cond_true hc (ihx K tm top m a hd.1 h hs)
    · generalize hc : a.eval c = v at hv
      cases hv
      exact wp_cond_false hc (ihy K tm top m a hd.2 h hs)
    · generalize hc : a.eval c = v at hv
      cases hv
      exact wp_cond_split hc (fun _ => ihx K tm top m a hd.1 h.1 hs) (fun _ => ihy K tm top m a hd.2 h.2 hs)
    · generalize hc : a.eval c = v at hv
      cases hv with
      | d _ _ hx =>
        cases hx
        exact wp_cond_split hc (fun e => ihx K tm top m a hd.1 (h.1 e) hs) (fun e => ihy K tm top m a hd.2 (h.2 e) hs)
    · exact h.elim
  | block id x ihx =>
    intro K tm top m a hd h hs
    refine wp_block (wp_mono (ihx _ tm top m a hd h hs) ?_)
    rintro e a' w ⟨tm', top', m', rfl, hk, hs'⟩
    cases e with
    | exit id' =>
      simp only [Exit.inBlock]
      dsimp only at hk
      cases hb : Nat.beq id' id with
      | true =>
        rw [hb] at hk
        rw [if_pos (Nat.eq_of_beq_eq_true hb)]
        exact ⟨tm', top', m', rfl, hk, hs'⟩
      | false =>
        rw [hb] at hk
        rw [if_neg (fun e => by subst e; simp at hb)]
        exact ⟨tm', top', m', rfl, hk, hs'⟩
    | _ => exact ⟨tm', top', m', rfl, hk, hs'⟩
  | loop x ihx =>
    intro K tm top m a hd h hs
    change LoopV (wpM C H mo x) K tm top at h
    unfold LoopV at h
    obtain ⟨ι, S, I, μ, ⟨i0, s0, hI0, hr0⟩, hstep⟩ := h
    have key : ∀ (n : Nat) (i : ι) (m : M) (a : Act), μ i < n → I i → St H m0 m a (S i).tm (S i).top → Code.rounds C.P x (Post H m0 K) n a m.w := by
      intro n
      induction n with
      | zero => intro i m a h; omega
      | succ n ih =>
        intro i m a hμ hI hs
        rw [rounds_succ]
        refine wp_mono (ihx _ _ _ m a hd (hstep i hI) hs) ?_
        rintro e a' w ⟨tm', top', m', rfl, hk, hs'⟩
        cases e with
        | normal =>
          obtain ⟨i', s', hI', hlt, hr⟩ := hk
          exact ih i' (m'.ren s' top'.length) a' (by omega) hI' (hs'.ref hr)
        | _ => exact ⟨tm', top', m', rfl, hk, hs'⟩
    exact wp_loop_rounds (μ i0 + 1) (key _ i0 (m.ren s0 top.length) a (Nat.lt_succ_self _) hI0 (hs.ref hr0))
  | _ => intro K tm top m a _ h _; exact h.elim

/-! ### what is handed back -/
theorem load_as {P : Program} {t : TypeId} {v u : Value} {w : World} (h : (Instr.loadAt t v).run P w = .ok u w) : ((asAddr v) >>= loadVar t).run P w = .ok u w := by
  cases v with
  | pointer a => cases a <;> simpa [Instr.loadAt, Instr.sureAddr, asAddr] using h
  | _ => simp [Instr.loadAt, Instr.sureAddr, stuck] at h

def resF (tmps : Array Value) : ResultVar → Sem Value
  | .tmp t => pure (tmps.getD t undef)
  | .cell a t => do loadVar t (← asAddr (tmps.getD a undef))
theorem resK_spec {C : Cx} (hC : C.Ok) {H : List (List Blk)} {tm : List PV} {top : List Blk} : ∀ {rvs : List ResultVar} {K : List PV → Prop}, resK C H tm top rvs K →
    ∃ ps, K ps ∧ ∀ m0 m a, St H m0 m a tm top → ∃ vs : List Value, ps.length = vs.length ∧ (rvs.mapM (resF a.tmps)).run C.P m.w = .ok vs m.w ∧ ∀ (j : Nat) p v, ps[j]? = some p → vs[j]? = some v → RP m p v
  | [], K, h => ⟨[], h, fun m0 m a hs => ⟨[], rfl, by simp, fun j p v hp => by simp at hp⟩⟩
  | .tmp t :: rs, K, h => by
    obtain ⟨p, hp, h⟩ := getK_spec.1 h
    obtain ⟨ps, hk, hh⟩ := resK_spec hC h
    refine ⟨p :: ps, hk, fun m0 m a hs => ?_⟩
    obtain ⟨vs, hl, hrun, hr⟩ := hh m0 m a hs
    have h1 := hs.evR [.tmp t] t p (List.mem_singleton.2 rfl) hp
    refine ⟨a.tmps.getD t undef :: vs, by simp [hl], ?_, fun j q v hq hv => ?_⟩
    · simp only [List.mapM_cons, resF, Sem.run_bind, Sem.run_pure, Result.andThen_ok, hrun]
    · cases j with
      | zero => simp only [List.getElem?_cons_zero, Option.some.injEq] at hq hv; subst hq; subst hv; exact h1
      | succ j => exact hr j q v (by simpa using hq) (by simpa using hv)
  | .cell x t :: rs, K, h => by
    obtain ⟨p, hp, h⟩ := getK_spec.1 h
    obtain ⟨q0, h, hq0⟩ := loadK_spec hC h
    obtain ⟨ps, hk, hh⟩ := resK_spec hC h
    refine ⟨q0 :: ps, hk, fun m0 m a hs => ?_⟩
    obtain ⟨vs, hl, hrun, hr⟩ := hh m0 m a hs
    have h1 := hs.evR [.tmp x] x p (List.mem_singleton.2 rfl) hp
    obtain ⟨u, hu, hru⟩ := hq0 m _ hs.inv h1
    have hu' : (resF a.tmps (.cell x t)).run C.P m.w = .ok u m.w := load_as hu
    refine ⟨u :: vs, by simp [hl], ?_, fun j q v hq hv => ?_⟩
    · simp only [List.mapM_cons, Sem.run_bind, Sem.run_pure, hu', Result.andThen_ok, hrun]
    · cases j with
      | zero => simp only [List.getElem?_cons_zero, Option.some.injEq] at hq hv; subst hq; subst hv; exact hru
      | succ j => exact hr j q v (by simpa using hq) (by simpa using hv)

def oneV : List Value → Value
  | [v] => v
  | vs => .tuple vs.toArray
theorem results_run {P : Program} {fn : Func} {tmps : Array Value} {w : World} {vs : List Value} (h : (fn.results.toList.mapM (resF tmps)).run P w = .ok vs w) :
    (results fn tmps).run P w = .ok (oneV vs) w := by
  have h1 : (fn.results.mapM (resF tmps)).run P w = .ok vs.toArray w := by
    rw [← Array.toArray_toList (xs := fn.results), List.mapM_toArray]
    simp [h]
  have h2 : results fn tmps = (do let vs ← fn.results.mapM (resF tmps); pure (if h : vs.size = 1 then vs[0] else .tuple vs)) := by
    unfold results
    congr 2
  rw [h2]
  simp only [Sem.run_bind, h1, Result.andThen_ok, Sem.run_pure]
  match vs with
  | [] => simp [oneV]
  | [v] => simp [oneV]
  | v :: u :: vs => simp [oneV]

theorem padK_spec : ∀ {args : List PV} {n : Nat} {K : List PV → Prop}, padK args n K → args.length ≤ n ∧ K (args ++ List.replicate (n - args.length) .any)
  | [], 0, K, h => ⟨Nat.le_refl _, h⟩
  | [], n + 1, K, h => by
    have := (padK_spec (args := []) (n := n) h).2
    refine ⟨Nat.zero_le _, ?_⟩
    simpa [List.replicate_succ] using this
  | p :: ps, 0, K, h => h.elim
  | p :: ps, n + 1, K, h => by
    obtain ⟨h1, h2⟩ := padK_spec (args := ps) (n := n) h
    refine ⟨by simp; omega, ?_⟩
    simpa using h2

theorem refN_B {top : List Blk} {s : List Nat} {n : Nat} : ∀ {js : List Nat} {N : List RowB}, refN top js N → refB s n top js (N.map RowB.blk)
  | [], [], _ => trivial
  | [], _ :: _, h => h.elim
  | _ :: _, [], h => h.elim
  | j :: js, r :: rs, h => ⟨h.1, refN_B h.2⟩

theorem ret_spec {C : Cx} (hC : C.Ok) {H : List (List Blk)} {fn : Func} {r : PV} {N : List RowB} {m0 : M0} {tm : List PV} {top : List Blk} {m : M} {a : Act} (hs : St H m0 m a tm top)
    (h : resK C H tm top fn.results.toList fun ps => oneK ps fun p => ∃ s, nodupB s = true ∧ refP s s.length top.length p r ∧ refN top s N) :
    ∃ v, (results fn a.tmps).run C.P m.w = .ok v m.w ∧ ∃ m2 : M, m2.w = m.w ∧ (∀ i, N.length ≤ i → m2.ρ 0 i = none) ∧ Since m0 m2 ∧ Inv m2 (N.map RowB.blk) H ∧ RP m2 r v := by
  obtain ⟨ps, hk, hh⟩ := resK_spec hC h
  obtain ⟨vs, hl, hrun, hr⟩ := hh m0 m a hs
  refine ⟨_, results_run hrun, ?_⟩
  have fin : ∀ p v, RP m p v → (∃ s, nodupB s = true ∧ refP s s.length top.length p r ∧ refN top s N) → ∃ m2 : M, m2.w = m.w ∧ (∀ i, N.length ≤ i → m2.ρ 0 i = none) ∧ Since m0 m2 ∧ Inv m2 (N.map RowB.blk) H ∧ RP m2 r v := by
    rintro p v hp ⟨s, h1, h2, h3⟩
    have hB := refN_B (s := s) (n := s.length) h3
    exact ⟨m.ren s top.length, rfl, ren_free (by simpa using (refB_get hB).1), since_ren hs.since s _, inv_ren hs.inv hs.free h1 hB, rp_ref hs.free h2 hp⟩
  unfold oneK at hk
  split at hk
  · rename_i p
    match vs, hl, hr with
    | [v], _, hr => exact fin p v (hr 0 p v rfl rfl) hk
  · rename_i hne
    refine fin (.tuple ps) _ ?_ hk
    have : oneV vs = Value.tuple vs.toArray := by
      clear hrun hr hh
      match vs, hl with
      | [], _ => rfl
      | [v], hl => exact absurd (show ps = [ps[0]'(by simp at hl; omega)] by match ps, hl with | [p], _ => rfl) (hne _)
      | v :: u :: vs, _ => rfl
    rw [this]
    exact .tuple _ _ (by simp [hl]) (fun j p v hp hv => hr j p v hp (by simpa using hv))

theorem good_draws {C : Cx} (hC : C.Ok) {f : Nat} (hg : C.good f = true) {fn : Func} {c : Code} (hf : C.P.funcs[f]? = some fn) (hb : fn.body = some c) : drawsOk C.give c = true := by
  have := hC.draws
  unfold goodB at this
  rw [List.all_eq_true] at this
  simp only [Cx.good, Bool.and_eq_true, Bool.not_eq_true'] at hg
  have := this f (List.mem_range.2 (by simpa [Nat.blt_eq] using hg.1))
  rw [hg.2, Bool.false_or, hf] at this
  simpa [hb] using this

theorem body_spec {C : Cx} (hC : C.Ok) {H : List (List Blk)} {f : Nat} {fn : Func} {c : Code} {G : List RowB} {args : List PV} {r : PV} {N : List RowB}
    {mo : List (Nat × Tr)} (hg : drawsM C.give mo c = true) (hf : C.P.funcs[f]? = some fn) (hb : fn.body = some c) (h : padK args fn.ntmps fun tm => wpM C H mo c (retK C H fn.results.toList r N) tm (G.map RowB.blk))
    (m : M) (vs : Array Value) (hinv : Inv m (G.map RowB.blk) H) (hfree : ∀ i, G.length ≤ i → m.ρ 0 i = none) (hfresh : ∀ j u k, m.ρ 0 j = some u → blkOf u = some k → Mine m (G.map RowB.blk) k) (hlen : args.length = vs.size) (hargs : ∀ (j : Nat) p v, args[j]? = some p → vs[j]? = some v → RP m p v) :
    Calls C.P f vs m.w fun e w' => ∃ (v : Value) (m2 : M), e = .returned v ∧ m2.w = w' ∧ (∀ i, N.length ≤ i → m2.ρ 0 i = none) ∧ Since ⟨m, G.map RowB.blk⟩ m2 ∧ Inv m2 (N.map RowB.blk) H ∧ RP m2 r v := by
  obtain ⟨hle, h⟩ := padK_spec h
  refine calls_of_wp hf hb (wp_mono (wpC_sound hC (m0 := ⟨m, G.map RowB.blk⟩) c _ _ _ m _ hg h ⟨hinv, ?_, fun j p v hp hv => ?_, rfl, fun j hj => hfree j (by simpa using hj), ?_⟩) ?_)
  · simp [hlen]
  · rcases Nat.lt_or_ge j args.length with h1 | h1
    · rw [List.getElem?_append_left h1] at hp
      rw [Array.getElem?_append_left (by omega)] at hv
      exact hargs j p v hp hv
    · rw [List.getElem?_append_right h1] at hp
      have := List.mem_of_getElem? hp
      rw [List.mem_replicate] at this
      rw [this.2]; exact .any _
  · exact ⟨rfl, rfl, rfl, Nat.le_refl _, fun _ _ _ => rfl, fun _ _ => rfl, fun _ _ => Iff.rfl, fun j u k hu hk => .inr (hfresh j u k hu hk)⟩
  · rintro e a w ⟨tm, top, m', rfl, hk, hs⟩
    cases e with
    | normal =>
      obtain ⟨v, hrun, m2, hw, h0, h1, h2, h3⟩ := ret_spec hC hs hk
      exact ⟨hs.defers, v, hrun, v, m2, rfl, hw, h0, h1, h2, h3⟩
    | ret =>
      obtain ⟨v, hrun, m2, hw, h0, h1, h2, h3⟩ := ret_spec hC hs hk
      exact ⟨hs.defers, v, hrun, v, m2, rfl, hw, h0, h1, h2, h3⟩
    | _ => exact hk.elim

theorem callEq_of_bodyM {C : Cx} (hC : C.Ok) {H : List (List Blk)} {f : Nat} {fn : Func} {c : Code} {args : List PV} {r : PV} {N : List RowB}
    {mo : List (Nat × Tr)} (hg : drawsM C.give mo c = true) (hf : C.P.funcs[f]? = some fn) (hb : fn.body = some c) (h : padK args fn.ntmps fun tm => wpM C H mo c (retK C H fn.results.toList r N) tm []) : CallEq C H f args r N := by
  unfold CallEq
  intro m vs hinv hfree hlen hargs
  refine (body_spec hC (G := []) hg hf hb h m vs hinv (fun i _ => hfree i) (fun j u k hu => by rw [hfree j] at hu; cases hu) hlen hargs).mono ?_
  rintro e w' ⟨v, m2, rfl, rfl, _, t, hi, hr⟩
  have nm : ∀ k, ¬ Mine m [] k := fun k ⟨i, b, v, h, _⟩ => by simp at h
  refine ⟨v, m2, rfl, rfl, ⟨t.os, t.tape, t.output, t.size, fun k hk => t.heap k hk (nm k), fun l i v hv => ?_, t.U⟩, t.up, fun j u k hu hk => (t.fresh j u k hu hk).resolve_right (nm k), hi, hr⟩
  cases l with
  | zero => rw [hfree i] at hv; cases hv
  | succ l => exact (t.up l i).trans hv

theorem callEq_of_body {C : Cx} (hC : C.Ok) {H : List (List Blk)} {f : Nat} {fn : Func} {c : Code} {args : List PV} {r : PV} {N : List RowB}
    (hg : C.good f = true) (hf : C.P.funcs[f]? = some fn) (hb : fn.body = some c) (h : padK args fn.ntmps fun tm => wpC C H c (retK C H fn.results.toList r N) tm []) : CallEq C H f args r N :=
  callEq_of_bodyM hC (mo := []) ((draws_nil _ _).trans (good_draws hC hg hf hb)) hf hb h

/-- A function to which rows are given for good. -/
theorem callEqG_of_bodyM {C : Cx} (hC : C.Ok) {H : List (List Blk)} {f : Nat} {fn : Func} {c : Code} {G : List RowB} {args : List PV} {r : PV} {N : List RowB}
    {mo : List (Nat × Tr)} (hg : drawsM C.give mo c = true) (hf : C.P.funcs[f]? = some fn) (hb : fn.body = some c) (h : padK args fn.ntmps fun tm => wpM C H mo c (retK C H fn.results.toList r N) tm (blksOf G)) : CallEqG C H f G args (G.map fun _ => none) r N := by
  rw [blksOf_eq] at h
  unfold CallEqG
  refine ⟨by simp, fun m vs hinv hfree hlen hargs => ?_⟩
  refine (body_spec hC (G := G) hg hf hb h m vs hinv hfree (fun j u k hu hk => ?_) hlen hargs).mono ?_
  · have hj : j < G.length := by
      rcases Nat.lt_or_ge j G.length with h | h
      · exact h
      · rw [hfree j h] at hu; cases hu
    exact ⟨j, (G[j]).blk, u, by simp [hj], rfl, hu, hk⟩
  · rintro e w' ⟨v, m', rfl, rfl, hl, t, hi, hr⟩
    let m2 : M := ⟨m'.w, fun l i => match l with | 0 => if i < N.length then m'.ρ 0 i else m.ρ 0 (i - N.length) | l + 1 => m'.ρ (l + 1) i, m'.U⟩
    have hlo : ∀ i, i < N.length → m2.ρ 0 i = m'.ρ 0 i := fun i hi => by show (if i < N.length then _ else _) = _; rw [if_pos hi]
    have hhi : ∀ i, m2.ρ 0 (N.length + i) = m.ρ 0 i := fun i => by show (if N.length + i < N.length then _ else m.ρ 0 (N.length + i - N.length)) = _; rw [if_neg (by omega), show N.length + i - N.length = i by omega]
    have hK : Keep m' m2 := by
      refine ⟨fun l i u hu => ?_, Nat.le_refl _, fun k hk => ⟨hk.2, rfl⟩⟩
      cases l with
      | succ l => exact hu
      | zero =>
        rw [hlo]
        · exact hu
        · rcases Nat.lt_or_ge i N.length with h | h
          · exact h
          · rw [hl i h] at hu; cases hu
    have get : ∀ l i b, getB (N.map RowB.blk ++ (G.map fun _ => (none : Option RowB)).map gblk) H l i = some b → b.live = true → getB (N.map RowB.blk) H l i = some b ∧ m2.ρ l i = m'.ρ l i := by
      intro l i b hb hlv
      cases l with
      | succ l => exact ⟨hb, rfl⟩
      | zero =>
        simp only [getB] at hb ⊢
        rcases Nat.lt_or_ge i N.length with h | h
        · rw [List.getElem?_append_left (by simpa using h)] at hb
          exact ⟨hb, hlo i h⟩
        · rw [List.getElem?_append_right (by simpa using h)] at hb
          simp only [List.map_map, List.getElem?_map] at hb
          obtain ⟨r, _, rfl⟩ := Option.map_eq_some_iff.1 hb
          cases hlv
    refine ⟨v, m2, rfl, rfl, ⟨t.os, t.tape, t.output, t.size, t.heap, t.up, t.U, fun j u k hu hk => ?_⟩, fun i _ => hhi i, ⟨fun l i b hb => ?_, fun l i b l' i' b' v v' k h1 h2 h3 h4 h5 h6 => ?_, fun l i b v k h1 h2 h3 => ?_, hi.lt⟩, hr.keep hK⟩
    · rcases Nat.lt_or_ge j N.length with h | h
      · rw [hlo j h] at hu; exact t.fresh j u k hu hk
      · have := hhi (j - N.length)
        rw [show N.length + (j - N.length) = j by omega] at this
        rw [this] at hu
        refine .inr ?_
        have hj : j - N.length < G.length := by
          rcases Nat.lt_or_ge (j - N.length) G.length with h | h
          · exact h
          · rw [hfree _ h] at hu; cases hu
        exact ⟨j - N.length, (G[j - N.length]).blk, u, by simp [hj], rfl, hu, hk⟩
    · cases hlv : b.live with
      | false => cases b <;> simp [Blk.live] at hlv; trivial
      | true =>
        obtain ⟨h1, h2⟩ := get l i b hb hlv
        exact (hi.blk l i b h1).keep hK h2 (fun _ _ _ _ _ => rfl)
    · obtain ⟨a1, a2⟩ := get l i b h1 h2
      obtain ⟨b1, b2⟩ := get l' i' b' h3 h4
      exact hi.inj l i b l' i' b' v v' k a1 h2 b1 h4 (a2 ▸ h5) (b2 ▸ h6)
    · obtain ⟨a1, a2⟩ := get l i b h1 h2
      exact hi.own l i b v k a1 h2 (a2 ▸ h3)
theorem callEqG_of_body {C : Cx} (hC : C.Ok) {H : List (List Blk)} {f : Nat} {fn : Func} {c : Code} {G : List RowB} {args : List PV} {r : PV} {N : List RowB}
    (hg : C.good f = true) (hf : C.P.funcs[f]? = some fn) (hb : fn.body = some c) (h : padK args fn.ntmps fun tm => wpC C H c (retK C H fn.results.toList r N) tm (blksOf G)) : CallEqG C H f G args (G.map fun _ => none) r N :=
  callEqG_of_bodyM hC (mo := []) ((draws_nil _ _).trans (good_draws hC hg hf hb)) hf hb h
end Go.Proofs.Ve
