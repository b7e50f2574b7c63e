/- HandTells, part 3 of 6. The engine and the contracts that the proof needs. -/
import Derived.RangeFuncNested
import Derived.RangeFuncBound
import Derived.Scope
import Derived.Shelf.Small.Bits
import Derived.Shelf.Strconv.Itoa0
import Derived.Ground.Names2Prog
import Derived.Shelf.Slices.CompactI
import Derived.Shelf.Slices.SearchI
import Derived.Shelf.Slices.Cells
import Derived.Shelf.Slices.In.SortNone
import Derived.Ground.SlbCloneProg
import Derived.Shelf.Bytes.SlClone
import Derived.Ground.SlgmProg
import Derived.Shelf.SortM.Plain
import Derived.Ground.Names8Prog
import Derived.Shelf.Spec.SlicesGrow
import Derived.Test.YtpmhiiembbfbeaaGreatProg
import Derived.Sort.OwnSortedInts
import Derived.Test.YtpmhiiembbfbeaaGreatHandTellsJ1
import Derived.Test.YtpmhiiembbfbeaaGreatHandTellsJ2
/- Code and calls: what the value machine says of them is so: regions; the frame beside other objects. -/
set_option linter.all false
namespace Go.Proofs.Ve
open Go

def okE : Exit → Bool
  | .panic _ => false
  | .outgrown => false
  | _ => true
def Post (H : List (List Blk)) (m0 : M0) (K : Exit → List PV → List Blk → Prop) : Exit → Act → World → Prop := fun e a w => okE e = true ∧ ∃ tm top m, m.w = w ∧ K e tm top ∧ Full H m0 m a tm top
theorem eval_of {H : List (List Blk)} {m0 : M0} {m : M} {a : Act} {tm : List PV} {top : List Blk} (hs : St H m0 m a tm top) {c : Operand} {p : PV} (hp : ev? tm c = some p) : RP m p (a.eval c) :=
  ev_rel (hs.evR [c]) (List.mem_singleton.2 rfl) hp

/-! ### orders laid down -/
def inB (dn : List Nat) (i : Nat) : Bool := dn.any (Nat.beq i)
def readyB (ops : List Oper) (dn : List Nat) (i : Nat) : Bool :=
  !inB dn i && (match ops[i]? with | some o => o.after.toList.all (fun e => !Region.binds .any e || inB dn e.on) | none => false)
/-- operations that look at no memory, of those that a frame's data is fit for -/
def sureOp : Op → Bool
  | .binOp b _ _ _ _ => (match b with | .add => true | _ => false)
  | .slice _ _ _ _ c => (match c with | none => true | some _ => false)
  | op => pureOp op
theorem sure_turns {op : Op} (h : sureOp op = true) {C : Cx} {tm : List PV} {top : List Blk} {K : List PV → List Blk → Prop} (hk : frzK C op tm top K) : K tm top := by
  unfold frzK at hk
  cases hc : C.fcl with
  | false => rw [hc] at hk; exact hk
  | true => rw [hc] at hk; cases op <;> first | exact hk | cases h
theorem sure_step {C : Cx} (hC : C.Ok) {H : List (List Blk)} {o : Oper} {tm : List PV} {top : List Blk} {K : PV → List Blk → Prop} (h : actK C H o.op tm top K) (hp : sureOp o.op = true) :
    ∃ pv, K pv top ∧ PureStep C.P o tm pv := by
  cases hpu : pureOp o.op with
  | true => exact pure_step hC h hpu
  | false =>
    cases ho : o.op with
    | binOp op t x y ty =>
      rw [ho] at h hp
      cases op <;> try cases hp
      obtain ⟨p, hp1, h⟩ := evK_ev h
      obtain ⟨q, hq1, h⟩ := evK_ev h
      have key : ∃ (k : IntKind) (a b : Int), p = .d (.int k a) ∧ q = .d (.int k b) ∧ K (.d (.int k (k.wrap (a + b)))) top := by
       clear hp1 hq1
       unfold binK at h
       split at h
       · rename_i k a
         split at h
         · rename_i k' b
           simp only [ifK] at h
           split at h
           · rename_i hk
             obtain rfl := kEq_eq hk
             exact ⟨_, _, _, rfl, rfl, h _ rfl⟩
           · exact h.elim
         · exact h.elim
       · split at h <;> exact h.elim
       · obtain ⟨r, _, _, h⟩ := lookK_spec h
         simp only [ifK] at h
         split at h
         · unfold boolsK at h
           split at h <;> exact h.elim
         · exact h.elim
       · obtain ⟨r, _, _, h⟩ := lookK_spec h
         simp only [ifK] at h
         split at h
         · unfold boolsK at h
           split at h <;> exact h.elim
         · exact h.elim
       · obtain ⟨r, _, _, h⟩ := lookK_spec h
         simp only [ifK] at h
         split at h
         · split at h <;> exact h.elim
         · exact h.elim
       · split at h
         · obtain ⟨r, _, _, h⟩ := lookK_spec h
           split at h
           · obtain ⟨re, _, _, h⟩ := lookK_spec h
             split at h
             · simp only [ifK] at h
               split at h
               · rw [lenK_spec] at h
                 split at h
                 · obtain ⟨b, hb, _⟩ := eqsK_spec _ _ _ h
                   exact hb.elim
                 · exact h.elim
               · exact h.elim
             · exact h.elim
           · exact h.elim
         · exact h.elim
       · exact h.elim
      obtain ⟨k, a, b, rfl, rfl, hK⟩ := key
      refine ⟨_, hK, fun m act he => ⟨.int k (k.wrap (a + b)), fun w => ?_, .d _ _ (.int _ _)⟩⟩
      have e1 := ev_rel he (x := x) (by simp [ho, Op.operands]) hp1
      have e2 := ev_rel he (x := y) (by simp [ho, Op.operands]) hq1
      generalize hx : act.eval x = v at e1
      generalize hy : act.eval y = v' at e2
      cases e1 with | d _ _ e1 => cases e1; cases e2 with | d _ _ e2 => cases e2; exact ex_run (s := do eqGuard .add t x y (act.eval x) (act.eval y); binOp .add t (act.eval x) (act.eval y)) (by simp only [execOp, ho]) (by rw [hx, hy]; simp [eqGuard, binOp, Op.intArith] <;> rfl)
    | slice t x lo hi mx =>
      rw [ho] at h hp
      cases mx with
      | some _ => cases hp
      | none =>
        obtain ⟨p, hpx, h⟩ := evK_ev h
        obtain ⟨l, h, hl0, hl1⟩ := optEvK_spec h
        obtain ⟨hh, h, hh0, hh1⟩ := optEvK_spec h
        obtain ⟨r, hr, ht_, h_⟩ := lookK_spec h
        clear h
        subst ht_
        have h := h_
        clear h_
        split at h
        case h_2 => exact h.elim
        rename_i e hty0
        obtain ⟨r', hr', ht_, h_⟩ := lookK_spec h
        clear h
        subst ht_
        have h := h_
        clear h_
        obtain ⟨q, hq, hq2⟩ := sliceK_spec hC hr hr' hty0 h
        refine ⟨q, hq, fun m a he => ?_⟩
        have memx : x ∈ o.op.operands.toList := by rw [ho]; simp [Op.operands]
        have meml : ∀ y, lo = some y → y ∈ o.op.operands.toList := fun y hy => by rw [ho, hy]; simp [Op.operands]
        have memh : ∀ y, hi = some y → y ∈ o.op.operands.toList := fun y hy => by rw [ho, hy]; simp [Op.operands]
        obtain ⟨u, hu, hr3⟩ := hq2 m (a.eval x) (lo.map a.eval) (hi.map a.eval) (ev_rel he memx hpx)
          (fun p' hp' => by
            cases lo with
            | none => rw [hl0 rfl] at hp'; cases hp'
            | some y => obtain ⟨p2, h1, h2⟩ := hl1 y rfl; rw [h1] at hp'; cases hp'; exact ⟨_, rfl, ev_rel he (meml y rfl) h2⟩)
          (fun hn => by
            cases lo with
            | none => rfl
            | some y => obtain ⟨p2, h1, h2⟩ := hl1 y rfl; rw [h1] at hn; cases hn)
          (fun p' hp' => by
            cases hi with
            | none => rw [hh0 rfl] at hp'; cases hp'
            | some y => obtain ⟨p2, h1, h2⟩ := hh1 y rfl; rw [h1] at hp'; cases hp'; exact ⟨_, rfl, ev_rel he (memh y rfl) h2⟩)
          (fun hn => by
            cases hi with
            | none => rfl
            | some y => obtain ⟨p2, h1, h2⟩ := hh1 y rfl; rw [h1] at hn; cases hn)
        exact ⟨u, fun w => ex_run (by simp [execOp, ho]) (hu w), hr3⟩
    | _ => rw [ho] at hp hpu; first | (exact absurd (hp.symm.trans hpu) (by decide)) | (rw [show sureOp _ = pureOp _ from rfl, hpu] at hp; cases hp)
def freeB (ops : List Oper) (dn : List Nat) (i : Nat) : Bool :=
  match ops[i]? with
  | none => false
  | some oi => sureOp oi.op && (List.range ops.length).all fun j => Nat.beq j i || inB dn j || (match ops[j]? with
    | some oj => oj.after.toList.any (fun e => Region.binds .any e && Nat.beq e.on i) || oi.apart ops.toArray oj
    | none => true)
def kidB : Tr → Nat → Bool
  | .alt i _ rest, j => Nat.beq i j || kidB rest j
  | _, _ => false
def noneB : Tr → Bool
  | .none => true
  | _ => false
def trB (ops : List Oper) : Tr → Bool → List Nat → Bool
  | .fin, _, dn => (List.range ops.length).all fun i => inB dn i
  | .none, head, _ => !head
  | .alt i sub rest, head, dn => readyB ops dn i && (trB ops sub true (i :: dn) && (trB ops rest false dn && (!head || ((freeB ops dn i && noneB rest) || (List.range ops.length).all fun j => !readyB ops dn j || kidB (.alt i sub rest) j))))
def trOk (ops : List Oper) (t : Tr) : Bool := Region.noSelect ops.toArray && trB ops t true []
noncomputable def moAt (mo : List (Nat × Tr)) (id : Nat) : Option Tr := List.rec (motive := fun _ => Option Tr) none (fun p _ ih => match Nat.beq p.1 id with | true => some p.2 | false => ih) mo
theorem moK_spec {mo : List (Nat × Tr)} {id : Nat} {f : Tr → Prop} {d : Prop} (h : moK mo id f d) : (∃ t, moAt mo id = some t ∧ f t) ∨ (moAt mo id = none ∧ d) := by
  induction mo with
  | nil => exact .inr ⟨rfl, h⟩
  | cons p mo ih =>
    change (match Nat.beq p.1 id with | true => f p.2 | false => moK mo id f d) at h
    change (∃ t, (match Nat.beq p.1 id with | true => some p.2 | false => moAt mo id) = some t ∧ f t) ∨ ((match Nat.beq p.1 id with | true => some p.2 | false => moAt mo id) = none ∧ d)
    cases hb : Nat.beq p.1 id with
    | true => rw [hb] at h; exact .inl ⟨_, rfl, h⟩
    | false => rw [hb] at h; exact ih h
def Tr.sz : Tr → Nat
  | .alt _ sub rest => sub.sz + rest.sz + 1
  | _ => 0
theorem trK_alt {C : Cx} {H : List (List Blk)} {ops : List Oper} {i : Nat} {sub rest : Tr} {K : List PV → List Blk → Prop} {tm : List PV} {top : List Blk} (h : trK C H ops (.alt i sub rest) K tm top) :
    opAtK C H ops i (trK C H ops sub K) tm top ∧ (noneB rest = false → trK C H ops rest K tm top) := by
  cases rest with
  | none => exact ⟨h, fun h => by cases h⟩
  | fin => exact ⟨h.1, fun _ => h.2⟩
  | alt j s r => exact ⟨h.1, fun _ => h.2⟩
theorem kid_of {C : Cx} {H : List (List Blk)} {ops : List Oper} {K : List PV → List Blk → Prop} {tm : List PV} {top : List Blk} {j : Nat} {dn : List Nat} : ∀ (t : Tr) (head : Bool), trB ops t head dn = true → kidB t j = true → trK C H ops t K tm top →
    ∃ sub, trB ops sub true (j :: dn) = true ∧ opAtK C H ops j (trK C H ops sub K) tm top ∧ sub.sz < t.sz
  | .fin, _, _, h, _ => by cases h
  | .none, _, _, h, _ => by cases h
  | .alt i sub rest, head, hb, hk, h => by
    simp only [trB, Bool.and_eq_true] at hb
    obtain ⟨h1, h2⟩ := trK_alt h
    simp only [kidB, Bool.or_eq_true] at hk
    rcases hk with hk | hk
    · obtain rfl := Nat.eq_of_beq_eq_true hk
      exact ⟨sub, hb.2.1, h1, by simp only [Tr.sz]; omega⟩
    · have hr : noneB rest = false := by cases rest <;> first | rfl | cases hk
      obtain ⟨s, a1, a2, a3⟩ := kid_of rest false hb.2.2.1 hk (h2 hr)
      exact ⟨s, a1, a2, by simp only [Tr.sz]; omega⟩
theorem inB_iff {dn : List Nat} {i : Nat} : inB dn i = true ↔ i ∈ dn := by
  unfold inB
  rw [List.any_eq_true]
  constructor
  · rintro ⟨x, hx, hb⟩; rw [Nat.eq_of_beq_eq_true hb]; exact hx
  · intro h; exact ⟨i, h, by simp⟩
theorem ready_iff {ops : List Oper} {dn : List Nat} {L : Array Bool} (hL : L.size = ops.length) (hd : ∀ i, i < ops.length → (Dn L i ↔ i ∈ dn)) (hdn : ∀ i ∈ dn, i < ops.length) (hb : ∀ (j : Nat) o, ops[j]? = some o → ∀ e ∈ o.after, Region.binds .any e = true → e.on < ops.length) (i : Nat) :
    i ∈ Region.ready .any ops.toArray L ↔ readyB ops dn i = true := by
  rw [mem_ready]
  unfold readyB
  cases ho : ops[i]? with
  | none => simp [ho]
  | some o =>
    have hi : i < ops.length := (List.getElem?_eq_some_iff.1 ho).1
    have h1 : L.getD i true = false ↔ ¬ i ∈ dn := by
      rw [← hd i hi]
      have : i < L.size := by omega
      unfold Dn
      simp [this]
    simp only [List.getElem?_toArray, ho, Bool.and_eq_true, Bool.not_eq_true', List.all_eq_true, Bool.or_eq_true, h1, Option.some.injEq, exists_eq_left']
    have h2 : inB dn i = false ↔ ¬ i ∈ dn := by rw [← inB_iff]; simp
    rw [h2]
    refine and_congr_right fun _ => ⟨fun h e he => ?_, fun h e he hbe => ?_⟩
    · cases hbe : Region.binds .any e with
      | false => exact .inl rfl
      | true => exact .inr (inB_iff.2 ((hd e.on (hb i o ho e (by simpa using he) hbe)).1 (h e (by simpa using he) hbe)))
    · rcases h e (by simpa using he) with h | h
      · rw [hbe] at h; cases h
      · exact (hd e.on (hb i o ho e he hbe)).2 (inB_iff.1 h)
/-- one operation, and what follows -/
theorem opAt_wp {C : Cx} (hC : C.Ok) {H : List (List Blk)} {ops : List Oper} {i : Nat} {K : List PV → List Blk → Prop} {tm : List PV} {top : List Blk} (h : opAtK C H ops i K tm top) {m0 : M0} (hW : ∀ o ∈ ops, ∀ d, o.dst = some d → m0.W d) (hF : C.fcl = true → ∀ k, ¬ Mine m0.toM m0.g k) {m : M} {a : Act} (hs : Full H m0 m a tm top)
    {Q : Exit → Act → World → Prop} {next : Act → World → Prop} (hn : ∀ m' a' tm' top', K tm' top' → Full H m0 m' a' tm' top' → next a' m'.w) : wpOp C.P ops.toArray Q i next a m.w := by
  obtain ⟨o, ho, h⟩ := getK_spec.1 h
  have hd := hW o (List.mem_of_getElem? ho)
  obtain ⟨tm1, h, hs1, _⟩ := hs.want h
  unfold wpOp
  simp only [List.getElem?_toArray, ho]
  split
  · rename_i hw
    rw [hw] at h
    obtain ⟨m1, tm2, top2, h, ew, _, _, hs2⟩ := frzK_spec hF hs1 h
    obtain ⟨pv, top', hk, hl', hg, hA⟩ := actK_step hC h
    rw [← ew]
    refine .inl (hA m1 a hs2.1.inv (hs2.1.evR _) hs2.1.free next Q fun v m' hT hρ hfr hI hR => ?_)
    obtain ⟨tm', hk', hs'⟩ := (hs2.turn hg hT hl' hρ hfr hI).put hd hR hk
    exact hn m' _ tm' top' hk' hs'
  · rename_i hw
    have hw : Region.wanted o (Go.yielded ops.toArray a.tmps) = false := by simpa using hw
    rw [hw] at h
    obtain ⟨tm', hk', hs'⟩ := hs1.put (v := undef) hd (.tuple [] #[] rfl (fun j p v h => by simp at h)) h
    exact hn m _ tm' top hk' hs'
/-- a pure operation: what it yields in whatever world -/
theorem opAt_pure {C : Cx} (hC : C.Ok) {H : List (List Blk)} {ops : List Oper} {i : Nat} {o : Oper} (ho : ops[i]? = some o) (hp : sureOp o.op = true) {K : List PV → List Blk → Prop} {tm : List PV} {top : List Blk} (h : opAtK C H ops i K tm top) {m0 : M0} (hW : ∀ o ∈ ops, ∀ d, o.dst = some d → m0.W d) {m : M} {a : Act} (hs : Full H m0 m a tm top) :
    ∃ v tm', Yields C.P ops.toArray o v a ∧ K tm' top ∧ Full H m0 m (a.put o.dst v) tm' top := by
  obtain ⟨o', ho', h⟩ := getK_spec.1 h
  rw [ho] at ho'; cases ho'
  have hd := hW o (List.mem_of_getElem? ho)
  obtain ⟨tm1, h, hs1, _⟩ := hs.want h
  cases hw : Region.wanted o (Go.yielded ops.toArray a.tmps) with
  | true =>
    rw [hw] at h
    have h := sure_turns hp h
    obtain ⟨pv, hk, hps⟩ := sure_step hC h hp
    obtain ⟨v, hrun, hv⟩ := hps m a (hs1.1.evR _)
    obtain ⟨tm', hk', hs'⟩ := hs1.put hd hv hk
    exact ⟨v, tm', .inl ⟨hw, hrun⟩, hk', hs'⟩
  | false =>
    rw [hw] at h
    obtain ⟨tm', hk', hs'⟩ := hs1.put (v := undef) hd (.tuple [] #[] rfl (fun j p v h => by simp at h)) h
    exact ⟨undef, tm', .inr ⟨hw, rfl⟩, hk', hs'⟩
theorem count_set {L : Array Bool} {i fuel : Nat} (hi : i < L.size) (hn : ¬ Dn L i) (hc : L.toList.count false = fuel + 1) : (L.setIfInBounds i true).toList.count false = fuel := by
  rw [Array.toList_setIfInBounds, List.count_set (by simpa using hi)]
  have hf : L.toList[i]'(by simpa using hi) = false := by
    unfold Dn at hn
    simpa [hi] using hn
  rw [hf, hc]; simp
theorem tr_any {C : Cx} (hC : C.Ok) {H : List (List Blk)} {ops : List Oper} (hsel : Region.noSelect ops.toArray = true) {m0 : M0} (hW : ∀ o ∈ ops, ∀ d, o.dst = some d → m0.W d) (hF : C.fcl = true → ∀ k, ¬ Mine m0.toM m0.g k) {K : List PV → List Blk → Prop} {R : Act → World → Prop} (hR : ∀ m a tm top, K tm top → Full H m0 m a tm top → R a m.w)
    (hb : ∀ (j : Nat) o, ops[j]? = some o → ∀ e ∈ o.after, Region.binds .any e = true → e.on < ops.length) :
    ∀ (n : Nat) (t : Tr) (dn : List Nat) (L : Array Bool) (fuel : Nat) (m : M) (a : Act) (tm : List PV) (top : List Blk), t.sz < n → trB ops t true dn = true → L.size = ops.length → (∀ i, i < ops.length → (Dn L i ↔ i ∈ dn)) → (∀ i ∈ dn, i < ops.length) → trK C H ops t K tm top → Full H m0 m a tm top → L.toList.count false = fuel →
      wpAny C.P .any ops.toArray (fun e a w => e = .normal ∧ R a w) fuel L a m.w := by
  intro n
  induction n with
  | zero => intro t dn L fuel m a tm top h; omega
  | succ n ih =>
    intro t dn L fuel m a tm top hsz ht hL hd hdn hk hs hc
    have hready := ready_iff hL hd hdn hb
    cases t with
    | none => cases ht
    | fin =>
      simp only [trB, List.all_eq_true, List.mem_range] at ht
      refine wpAny_done ?_ ⟨rfl, hR m a tm top hk hs⟩ fuel
      refine List.eq_nil_iff_forall_not_mem.2 fun i hi => ?_
      have h1 := (hready i).1 hi
      unfold readyB at h1
      simp only [Bool.and_eq_true, Bool.not_eq_true'] at h1
      have hil : i < ops.length := by
        cases ho : ops[i]? with
        | none => rw [ho] at h1; cases h1.2
        | some o => exact (List.getElem?_eq_some_iff.1 ho).1
      rw [ht i hil] at h1
      cases h1.1
    | alt i sub rest =>
      have ht' := ht
      simp only [trB, Bool.and_eq_true] at ht
      obtain ⟨hri, hsub, hrest, hhead⟩ := ht
      have hil : i < ops.length := by
        unfold readyB at hri
        cases ho : ops[i]? with
        | none => rw [ho] at hri; simp at hri
        | some o => exact (List.getElem?_eq_some_iff.1 ho).1
      have nd : ∀ j, readyB ops dn j = true → ¬ Dn L j ∧ j < ops.length := fun j hj => by
        unfold readyB at hj
        simp only [Bool.and_eq_true, Bool.not_eq_true'] at hj
        have hjl : j < ops.length := by
          cases ho : ops[j]? with
          | none => rw [ho] at hj; cases hj.2
          | some o => exact (List.getElem?_eq_some_iff.1 ho).1
        refine ⟨fun h => ?_, hjl⟩
        rw [inB_iff.2 ((hd j hjl).1 h)] at hj
        cases hj.1
      have upd : ∀ j, j < ops.length → (L.setIfInBounds j true).size = ops.length ∧ (∀ k, k < ops.length → (Dn (L.setIfInBounds j true) k ↔ k ∈ j :: dn)) ∧ ∀ k ∈ j :: dn, k < ops.length := fun j hj => by
        refine ⟨by simp [hL], fun k hk => ?_, fun k hk => ?_⟩
        · rw [dn_set (by omega), hd k hk, List.mem_cons]
        · cases hk with
          | head => exact hj
          | tail _ hk => exact hdn k hk
      obtain ⟨fuel', rfl⟩ : ∃ f, fuel = f + 1 := by
        cases fuel with
        | succ f => exact ⟨f, rfl⟩
        | zero =>
          exfalso
          rw [List.count_eq_zero] at hc
          have hi : i < L.size := by omega
          have := (nd i hri).1
          unfold Dn at this
          cases hv : L[i] with
          | true => exact this (by simp [hi, hv])
          | false => exact hc (List.mem_of_getElem? (i := i) (by simp [hi, hv]))
      simp only [Bool.not_true, Bool.false_or, Bool.or_eq_true] at hhead
      rcases hhead with hhead | hhead
      · simp only [Bool.and_eq_true] at hhead
        obtain ⟨hfree, hno⟩ := hhead
        obtain ⟨hk1, _⟩ := trK_alt hk
        obtain ⟨o, ho⟩ : ∃ o, ops[i]? = some o := ⟨_, List.getElem?_eq_getElem hil⟩
        unfold freeB at hfree
        rw [ho] at hfree
        simp only [Bool.and_eq_true, List.all_eq_true, List.mem_range] at hfree
        obtain ⟨hp, hfree⟩ := hfree
        obtain ⟨v, tm', hy, hk', hs'⟩ := opAt_pure hC ho hp hk1 hW hs
        obtain ⟨u1, u2, u3⟩ := upd i hil
        refine wpAny_first (by simpa using ho) (Region.noSelect_spec hsel) (fun c a w h => by cases h.1) fuel' L a m.w (fun j oj hj hne hun hnot => ?_) ((hready i).2 hri) hy (ih sub (i :: dn) _ fuel' m _ tm' top (by simp only [Tr.sz] at hsz; omega) hsub u1 u2 u3 hk' hs' (count_set (by omega) (nd i hri).1 hc))
        have hj' : ops[j]? = some oj := by simpa using hj
        have hjl := (List.getElem?_eq_some_iff.1 hj').1
        have := hfree j hjl
        rw [hj'] at this
        simp only [Bool.or_eq_true] at this
        rcases this with (h | h) | h | h
        · exact absurd (Nat.eq_of_beq_eq_true h) hne
        · exfalso
          have h1 := (hd j hjl).2 (inB_iff.1 h)
          have : j < L.size := by omega
          unfold Dn at h1
          simp [this] at h1 hun
          rw [h1] at hun; cases hun
        · exfalso
          rw [List.any_eq_true] at h
          obtain ⟨e, he, hbe⟩ := h
          simp only [Bool.and_eq_true] at hbe
          exact hnot e (by simpa using he) hbe.1 (Nat.eq_of_beq_eq_true hbe.2)
        · exact h
      · simp only [List.all_eq_true, List.mem_range, Bool.or_eq_true, Bool.not_eq_true'] at hhead
        refine ⟨fun h => ?_, fun j hj => ?_⟩
        · have := (hready i).2 hri
          rw [h] at this; cases this
        · have hrj := (hready j).1 hj
          obtain ⟨hnj, hjl⟩ := nd j hrj
          have hkid : kidB (.alt i sub rest) j = true := by
            rcases hhead j hjl with h | h
            · rw [hrj] at h; cases h
            · exact h
          obtain ⟨sub', b1, b2, b3⟩ := kid_of (.alt i sub rest) true ht' hkid hk
          obtain ⟨u1, u2, u3⟩ := upd j hjl
          exact opAt_wp hC b2 hW hF hs fun m' a' tm' top' hk' hs' => ih sub' (j :: dn) _ fuel' m' a' tm' top' (by omega) b1 u1 u2 u3 hk' hs' (count_set (by omega) hnj hc)
theorem after_lt {tn : Op → Bool} {ops : List Oper} {T : List Nat} (hD : Drawn tn ops T) : ∀ (j : Nat) o, ops[j]? = some o → ∀ e ∈ o.after, Region.binds .any e = true → e.on < ops.length := fun j o ho e he hb => by
  have := hD.back j o ho e he hb
  have := (List.getElem?_eq_some_iff.1 ho).1
  omega
def backB (ops : List Oper) : Bool := ops.all fun o => o.after.toList.all fun e => !Region.binds .any e || Nat.blt e.on ops.length
theorem tr_spec {C : Cx} (hC : C.Ok) {r : Option Nat} {H : List (List Blk)} {ops : List Oper} {id : Nat} {t : Tr} (hnd : noDefer ops = true) (hd : (backB ops && trOk ops t) = true) {m0 : M0} (hW : ∀ o ∈ ops, ∀ d, o.dst = some d → m0.W d) (hF : C.fcl = true → ∀ k, ¬ Mine m0.toM m0.g k) {m : M} {a : Act} {tm : List PV} {top : List Blk} {K : List PV → List Blk → Prop} {Q : Exit → Act → World → Prop}
    (hQ : ∀ m a tm top, K tm top → Full H m0 m a tm top → Q .normal a m.w) (hk : trK C H ops t K tm top) (hs : Full H m0 m a tm top) : (Code.region id ops.toArray true).wpIn (FW r) 0 C.P Q a m.w := by
  simp only [trOk, Bool.and_eq_true] at hd
  obtain ⟨hb, hsel, ht⟩ := hd
  have hb' : ∀ (j : Nat) o, ops[j]? = some o → ∀ e ∈ o.after, Region.binds .any e = true → e.on < ops.length := fun j o ho e he hbe => by
    have h1 := List.all_eq_true.1 hb o (List.mem_of_getElem? ho)
    have h2 := List.all_eq_true.1 h1 e (by simpa using he)
    rw [hbe] at h2
    simpa [Nat.blt_eq] using h2
  have hs := hs.draw (m.w.drawn + 1)
  have hnone : ∀ i, ¬ Dn (Array.replicate ops.length false) i := fun i h => by
    unfold Dn at h
    rcases Nat.lt_or_ge i ops.length with h' | h' <;> simp [h'] at h
  refine wpIn_mono (wpIn_region_any hC.mix (any_in hnd (fun a w h => by cases h.1) _ _ _ _ ?_)) (Q := fun e a w => e = .normal ∧ Q .normal a w) ?_
  · have hsz : ops.toArray.size = ops.length := by simp
    rw [hsz]
    exact tr_any hC hsel (m0 := m0) hW hF (K := K) (R := fun a w => Q .normal a w) hQ hb' _ t [] (Array.replicate ops.length false) _ ⟨{ m.w with drawn := m.w.drawn + 1 }, m.ρ, m.U⟩ a tm top (Nat.lt_succ_self _) ht (by simp) (fun i hi => ⟨fun h => absurd h (hnone i), fun h => by cases h⟩) (fun i hi => by cases hi) hk hs (by simp)
  · rintro e a w ⟨rfl, h⟩; exact h

noncomputable def drawsM (gv : List Nat) (fz fc : Bool) (mo : List (Nat × Tr)) : Code → Bool
  | .region id ops draw => !draw || (noDefer ops.toList && (match moAt mo id with | some t => backB ops.toList && trOk ops.toList t | none => drawOk (Op.turns gv (empsF fz ops.toList)) ops))
  | .seq a b => drawsM gv fz fc mo a && drawsM gv fz fc mo b
  | .cond _ a b => drawsM gv fz fc mo a && drawsM gv fz fc mo b
  | .block _ a => drawsM gv fz fc mo a
  | .loop a => drawsM gv fz fc mo a
  | .scope a => drawsM gv fz fc mo a
  | .rangeFunc _ _ a b => !fc && (drawsM gv fz fc mo a && drawsM gv fz fc mo b)
  | _ => true
theorem draws_nil (gv : List Nat) : ∀ (c : Code), drawsM gv false false [] c = drawsOk gv c := by
  intro c
  induction c with
  | region id ops draw => rfl
  | seq a b iha ihb => simp only [drawsM, drawsOk, iha, ihb]
  | cond x a b iha ihb => simp only [drawsM, drawsOk, iha, ihb]
  | block id a ih => simp only [drawsM, drawsOk, ih]
  | loop a ih => simp only [drawsM, drawsOk, ih]
  | scope a ih => simp only [drawsM, drawsOk, ih]
  | rangeFunc f ps a b iha ihb => simp only [drawsM, drawsOk, iha, ihb, Bool.not_false, Bool.true_and]
  | _ => rfl

/-! ### the frame, and an object that is not its -/
theorem heap_put {w : World} {L k : Nat} {o : Obj} (h : k ≠ L) : (w.putObj L o).heap[k]? = w.heap[k]? := World.putObj_heap_other h
theorem size_put (w : World) (L : Nat) (o : Obj) : (w.putObj L o).heap.size = w.heap.size := by simp [World.putObj]
theorem inv_other {m m' : M} {top : List Blk} {H : List (List Blk)} (hi : Inv m top H) (hρ : m'.ρ = m.ρ) (hK : Keep m m') (hheap : ∀ l i b v k, getB top H l i = some b → b.live = true → m.ρ l i = some v → blkOf v = some k → m'.w.heap[k]? = m.w.heap[k]?) (hU : ∀ k, k < m.w.heap.size → m.U k → m'.U k) (hlt : ∀ k, m'.U k → k < m'.w.heap.size) : Inv m' top H :=
  ⟨fun l i b hb => (hi.blk l i b hb).keep hK (by rw [hρ]) (fun v k hl hv hk => hheap l i b v k hb hl hv hk),
   fun l i b l' i' b' v v' k h1 h2 h3 h4 h5 h6 h7 h8 => hi.inj l i b l' i' b' v v' k h1 h2 h3 h4 (hρ ▸ h5) (hρ ▸ h6) h7 h8,
   fun l i b v k h1 h2 h3 h4 => by rw [hρ] at h3; have hu := hi.own l i b v k h1 h2 h3 h4; exact hU k (hi.lt k hu) hu, hlt⟩
theorem mine_other {m m' : M} {top : List Blk} (hρ : m'.ρ = m.ρ) {k : Nat} (h : Mine m' top k) : Mine m top k := by
  obtain ⟨i, b, v, h1, h2, h3, h4⟩ := h
  exact ⟨i, b, v, h1, h2, hρ ▸ h3, h4⟩
/-- An object beside the frame is turned. -/
theorem full_obj {H : List (List Blk)} {m0 : M0} {m : M} {a : Act} {tm : List PV} {top : List Blk} {V : Nat → Prop} {ds : List Deferred} (hs : St H m0 m a tm top) (hc : Calm H m0 m ds top V) {L : Nat} {o : Obj} (q : Quiet m top V L o) (hH : ∀ l i b v, getB top H l i = some b → b.live = true → m.ρ l i = some v → blkOf v ≠ some L)
    (hL : m0.w.heap.size ≤ L) (hz : ∀ k o, m0.Z k = some o → k ≠ L) (hd : ∀ d ∈ ds, d ≠ { target := .collected L, args := #[] }) (o' : Obj) :
    St H m0 ⟨m.w.putObj L o', m.ρ, m.U⟩ a tm top ∧ Calm H m0 ⟨m.w.putObj L o', m.ρ, m.U⟩ ds top V ∧ Quiet ⟨m.w.putObj L o', m.ρ, m.U⟩ top V L o' := by
  have hsz := size_put m.w L o'
  have hK : Keep m ⟨m.w.putObj L o', m.ρ, m.U⟩ := ⟨fun _ _ _ h => h, Nat.le_of_eq hsz.symm, fun k hk => ⟨hk.2, heap_put (fun e => hk.2 (e ▸ q.used))⟩⟩
  have hlt := (Array.getElem?_eq_some_iff.1 q.heap).1
  have hinv : Inv ⟨m.w.putObj L o', m.ρ, m.U⟩ top H := inv_other hs.inv rfl hK (fun l i b v k h1 h2 h3 h4 => heap_put (fun e => hH l i b v h1 h2 h3 (e ▸ h4))) (fun _ _ h => h) (fun k hk => by show k < (m.w.putObj L o').heap.size; rw [hsz]; exact hs.inv.lt k hk)
  refine ⟨⟨hinv, hs.size, fun j p v hp hv => (hs.rel j p v hp hv).keep hK, hs.defers, hs.free, ⟨hs.since.os, hs.since.tape, hs.since.output, by show _ ≤ (m.w.putObj L o').heap.size; rw [hsz]; exact hs.since.size, fun k hk h1 h2 => (heap_put (by omega)).trans (hs.since.heap k hk h1 h2), hs.since.up, hs.since.U, fun k hk => hs.since.fresh k hk⟩, hs.tsz, hs.prot⟩, ?_, ⟨World.putObj_heap_same hlt, q.mine, q.out, q.used⟩⟩
  refine ⟨hc.one, hc.used, hc.more, hc.old, hc.mine, fun i Y st hb => ?_, fun k o hk => ?_, hc.nd, hc.late, fun d hd' => ?_⟩
  · obtain ⟨h1, h2, h3⟩ := hc.gen i Y st hb
    exact ⟨h1, h2, h2 st V m.w m.U _ m.U ⟨rfl, rfl, rfl, Nat.le_of_eq hsz.symm, fun _ _ => Iff.rfl, fun k _ hk => heap_put (fun e => hk (e ▸ q.used)), fun k hk => heap_put (fun e => q.out (e ▸ hk)), hinv.lt⟩ hc.used hs.inv.lt h3⟩
  · have := hc.z k o hk
    exact ⟨(heap_put (hz k o hk)).trans this.heap, this.mine, this.out, this.used⟩
  · obtain ⟨D, h1, h2⟩ := hc.d d hd'
    exact ⟨D, h1, (heap_put (fun e => hd d hd' (by rw [h1, e]))).trans h2.heap, h2.mine, h2.out, h2.used⟩
/-- An object beside the frame is made. -/
theorem full_alloc {H : List (List Blk)} {m0 : M0} {m : M} {a : Act} {tm : List PV} {top : List Blk} {V : Nat → Prop} {ds : List Deferred} (hs : St H m0 m a tm top) (hc : Calm H m0 m ds top V) (o : Obj) :
    St H m0 ⟨m.w.alloc o, m.ρ, fun k => m.U k ∨ k = m.w.heap.size⟩ a tm top ∧ Calm H m0 ⟨m.w.alloc o, m.ρ, fun k => m.U k ∨ k = m.w.heap.size⟩ ds top V ∧ Quiet ⟨m.w.alloc o, m.ρ, fun k => m.U k ∨ k = m.w.heap.size⟩ top V m.w.heap.size o := by
  have hK : Keep m ⟨m.w.alloc o, m.ρ, fun k => m.U k ∨ k = m.w.heap.size⟩ := ⟨fun _ _ _ h => h, by simp, fun k hk => ⟨fun h => h.elim hk.2 (fun h => by have := hk.1; omega), heap_old _ _ _ hk.1⟩⟩
  have hU : ∀ k, k < m.w.heap.size → ((m.U k ∨ k = m.w.heap.size) ↔ m.U k) := fun k hk => ⟨fun h => h.elim id (fun h => by omega), .inl⟩
  have hinv : Inv ⟨m.w.alloc o, m.ρ, fun k => m.U k ∨ k = m.w.heap.size⟩ top H := inv_other hs.inv rfl hK (fun l i b v k h1 h2 h3 h4 => heap_old _ _ _ (hs.inv.lt k (hs.inv.own l i b v k h1 h2 h3 h4))) (fun _ _ h => .inl h) (fun k hk => by
    show k < (m.w.alloc o).heap.size
    rw [World.size_alloc]
    rcases hk with hk | hk
    · have := hs.inv.lt k hk; omega
    · omega)
  refine ⟨⟨hinv, hs.size, fun j p v hp hv => (hs.rel j p v hp hv).keep hK, hs.defers, hs.free, hs.since.step rfl rfl rfl (by simp) (fun k hk _ => heap_old _ _ _ hk) (fun _ _ => rfl) hU (fun k hk => .inr hk), hs.tsz, hs.prot⟩, hc.step hs.inv hinv (GenLe.refl _) rfl rfl rfl (by simp) (fun k hk _ => heap_old _ _ _ hk) hU (fun k hk => .inr hk), heap_new _ _, fun ⟨i, b, v, h1, h2, h3, h4⟩ => ?_, fun h => ?_, .inr rfl⟩
  · have := hs.inv.lt _ (hs.inv.own 0 i b v _ h1 h2 h3 h4); omega
  · have := hs.inv.lt _ (hc.used _ h); omega
end Go.Proofs.Ve

/- A range over a function: what the value machine says of it is so: a round. -/
set_option linter.all false
namespace Go.Proofs.Ve
open Go

theorem mem_appL {x : Nat} : ∀ {a b : List Nat}, x ∈ appL a b ↔ x ∈ a ∨ x ∈ b
  | [], b => by simp [appL]
  | y :: a, b => by
    change x ∈ y :: appL a b ↔ _
    rw [List.mem_cons, mem_appL (a := a), List.mem_cons, or_assoc]
theorem mem_opDsts {x : Nat} : ∀ {l : List Oper}, x ∈ opDsts l ↔ ∃ o ∈ l, o.dst = some x
  | [] => by simp [opDsts]
  | o :: l => by
    change x ∈ (match o.dst with | some d => d :: opDsts l | none => opDsts l) ↔ _
    cases ho : o.dst with
    | none => simp only [mem_opDsts (l := l)]; constructor
              · rintro ⟨y, h1, h2⟩; exact ⟨y, List.mem_cons_of_mem _ h1, h2⟩
              · rintro ⟨y, h1, h2⟩
                rcases List.mem_cons.1 h1 with rfl | h1
                · rw [ho] at h2; cases h2
                · exact ⟨y, h1, h2⟩
    | some d => simp only [List.mem_cons, mem_opDsts (l := l)]; constructor
                · rintro (rfl | ⟨y, h1, h2⟩)
                  · exact ⟨o, .inl rfl, ho⟩
                  · exact ⟨y, .inr h1, h2⟩
                · rintro ⟨y, rfl | h1, h2⟩
                  · rw [ho] at h2; cases h2; exact .inl rfl
                  · exact .inr ⟨y, h1, h2⟩
/-- What is to be shown of code. -/
def Sound (C : Cx) (H : List (List Blk)) (mo : List (Nat × Tr)) (c : Code) : Prop :=
  ∀ (r : Option Nat) (m0 : M0) (K : Exit → List PV → List Blk → Prop) (tm : List PV) (top : List Blk) (m : M) (a : Act), (∀ l, r = some l → ∃ r0, m0.Z l = some (.loop r0)) → (∀ d ∈ dstsC c, m0.W d) → (C.fcl = true → ∀ k, ¬ Mine m0.toM m0.g k) → wpM C H mo c K tm top → Full H m0 m a tm top →
    c.wpIn (FW r) 0 C.P (Post H m0 K) a m.w

theorem dpv_get {xs : List DV} {j : Nat} {p : PV} (h : (dpv xs)[j]? = some p) : ∃ x, xs[j]? = some x ∧ p = .d x := by
  rw [dpv_eq, List.getElem?_map] at h
  obtain ⟨x, h1, h2⟩ := Option.map_eq_some_iff.1 h
  exact ⟨x, h1, h2.symm⟩
theorem ry_rp {m : M} {y : YV} {v : Value} (h : RY m.w m.ok y v) : RP m (yvPV y) v := by
  cases h with
  | one x v h => exact .d _ _ h
  | agg xs vs h1 h2 =>
    refine .agg _ _ (by rw [dpv_eq, List.length_map, h1]) (fun j p v hp hv => ?_)
    obtain ⟨x, hx, rfl⟩ := dpv_get hp
    exact .d _ _ (h2 j x v hx hv)
theorem putPs_spec : ∀ (ps : List Nat) (xs : List YV) (tm : List PV) (K : List PV → Prop), putPs ps xs tm K → ∃ tmr, K tmr ∧ ps.length = xs.length ∧ tmr.length = tm.length ∧
    ∀ (m : M) (vs : List Value) (t : Array Value), vs.length = xs.length → (∀ (j : Nat) y u, xs[j]? = some y → vs[j]? = some u → RY m.w m.ok y u) → t.size = tm.length → (∀ (j : Nat) p v, tm[j]? = some p → t[j]? = some v → RP m p v) →
      ((ps.zip vs).foldl (fun t (x : Nat × Value) => t.setIfInBounds x.1 x.2) t).size = t.size ∧ (∀ j, j ∉ ps → ((ps.zip vs).foldl (fun t (x : Nat × Value) => t.setIfInBounds x.1 x.2) t)[j]? = t[j]?) ∧
        ∀ (j : Nat) p v, tmr[j]? = some p → ((ps.zip vs).foldl (fun t (x : Nat × Value) => t.setIfInBounds x.1 x.2) t)[j]? = some v → RP m p v
  | [], [], tm, K, h => ⟨tm, h, rfl, rfl, fun m vs t hl _ hs hr => ⟨by simp, by simp, fun j p v hp hv => hr j p v hp (by simpa using hv)⟩⟩
  | [], _ :: _, tm, K, h => h.elim
  | _ :: _, [], tm, K, h => h.elim
  | p :: ps, x :: xs, tm, K, h => by
    rw [putPs_cons] at h
    obtain ⟨hlt, h⟩ := setK_spec.1 h
    obtain ⟨tmr, hk, h1, h2, h3⟩ := putPs_spec ps xs _ K h
    refine ⟨tmr, hk, by simp [h1], by simp [h2], fun m vs t hl hy hs hr => ?_⟩
    cases vs with
    | nil => simp at hl
    | cons u vs =>
      have hyu := ry_rp (hy 0 x u rfl rfl)
      obtain ⟨q1, q2, q3⟩ := h3 m vs (t.setIfInBounds p u) (by simpa using hl) (fun j y w hj hw => hy (j + 1) y w (by simpa using hj) (by simpa using hw)) (by simp [hs]) (fun j q v hq hv => by
        by_cases hj : p = j
        · subst hj
          simp [hlt] at hq
          have : p < t.size := by omega
          simp [this] at hv
          subst hq; subst hv; exact hyu
        · rw [List.getElem?_set_ne hj] at hq
          rw [Array.getElem?_setIfInBounds_ne hj] at hv
          exact hr j q v hq hv)
      refine ⟨by simp only [List.zip_cons_cons, List.foldl_cons]; rw [q1]; simp, fun j hj => ?_, fun j q v hq hv => q3 j q v hq (by simpa using hv)⟩
      rw [List.mem_cons, not_or] at hj
      simp only [List.zip_cons_cons, List.foldl_cons]
      rw [q2 j hj.2, Array.getElem?_setIfInBounds_ne (fun e => hj.1 e.symm)]
theorem maskK_spec : ∀ (W : List Nat) (tm : List PV) (K : List PV → Prop), maskK W tm K → ∃ tm', K tm' ∧ tm'.length = tm.length ∧ ∀ (j : Nat) p, tm'[j]? = some p → p = .any ∨ (j ∉ W ∧ tm[j]? = some p)
  | [], tm, K, h => ⟨tm, h, rfl, fun j p hp => .inr ⟨by simp, hp⟩⟩
  | x :: W, tm, K, h => by
    rw [maskK_cons] at h
    obtain ⟨hlt, h⟩ := setK_spec.1 h
    obtain ⟨tm', hk, h1, h2⟩ := maskK_spec W _ K h
    refine ⟨tm', hk, by simpa using h1, fun j p hp => ?_⟩
    rcases h2 j p hp with h3 | ⟨h3, h4⟩
    · exact .inl h3
    · by_cases hj : x = j
      · subst hj; simp [hlt] at h4; exact .inl h4.symm
      · rw [List.getElem?_set_ne hj] at h4
        exact .inr ⟨by rw [List.mem_cons, not_or]; exact ⟨fun e => hj e.symm, h3⟩, h4⟩

def jumpC : Exit → Option Code
  | .ret => some .ret
  | .exit id => some (.exit id)
  | .goto l => some (.goto l)
  | _ => none
/-- The frame that ranges, while what it ranges over is under way. -/
structure Held (H : List (List Blk)) (m0 : M0) (a : Act) (L : Nat) (V : Nat → Prop) (m : M) (tm : List PV) (top : List Blk) (o : Obj) : Prop where
  st : St H { m0 with ds := a.defers } m a tm top
  calm : ∃ Vc, Calm H m0 m a.defers top Vc ∧ (∀ k, Vc k → V k) ∧ Quiet m top Vc L o
  z : ∀ k o, m0.Z k = some o → k ≠ L ∧ V k
  d : ∀ d ∈ a.defers, ∀ D, d = { target := .collected D, args := #[] } → D ≠ L ∧ V D
  named : ∀ l i b v k, getB top H l i = some b → b.live = true → m.ρ l i = some v → blkOf v = some k → V k ∧ k ≠ L
  lrec : V L
  old : ∀ k, k < m0.w.heap.size → m.U k → V k ∨ Mine m0.toM m0.g k ∨ m0.V k
  late : m0.w.heap.size ≤ L
theorem Held.obj {H : List (List Blk)} {m0 : M0} {a : Act} {L : Nat} {V : Nat → Prop} {m : M} {tm : List PV} {top : List Blk} {o : Obj} (h : Held H m0 a L V m tm top o) (o' : Obj) : Held H m0 a L V ⟨m.w.putObj L o', m.ρ, m.U⟩ tm top o' := by
  obtain ⟨Vc, hc, h1, q⟩ := h.calm
  obtain ⟨r1, r2, r3⟩ := full_obj (m0 := { m0 with ds := a.defers }) h.st (ds := a.defers) ⟨hc.one, hc.used, hc.more, hc.old, hc.mine, hc.gen, hc.z, hc.nd, hc.late, hc.d⟩ q (fun l i b v e1 e2 e3 e4 => (h.named l i b v L e1 e2 e3 e4).2 rfl) h.late (fun k o hk => (h.z k o hk).1) (fun d hd e => (h.d d hd L e).1 rfl) o'
  exact ⟨r1, ⟨Vc, ⟨r2.one, r2.used, r2.more, r2.old, r2.mine, r2.gen, r2.z, r2.nd, r2.late, r2.d⟩, h1, r3⟩, h.z, h.d, h.named, h.lrec, h.old, h.late⟩
theorem Held.abide {H : List (List Blk)} {m0 : M0} {a : Act} {L : Nat} {V : Nat → Prop} {m : M} {tm : List PV} {top : List Blk} {o : Obj} (h : Held H m0 a L V m tm top o) {w' : World} {U' : Nat → Prop} (hs : Abide m.w m.U V w' U') (hVU : ∀ k, V k → m.U k) : Held H m0 a L V ⟨w', m.ρ, U'⟩ tm top o := by
  obtain ⟨Vc, hc, h1, q⟩ := h.calm
  have hlt := h.st.inv.lt
  have hK : Keep m ⟨w', m.ρ, U'⟩ := ⟨fun _ _ _ h => h, hs.size, fun k hk => ⟨fun hu => hk.2 ((hs.iff k hk.1).1 hu), hs.plain k hk.1 hk.2⟩⟩
  have hinv : Inv ⟨w', m.ρ, U'⟩ top H := inv_other h.st.inv rfl hK (fun l i b v k e1 e2 e3 e4 => hs.keep k (h.named l i b v k e1 e2 e3 e4).1) (fun k hk hu => (hs.iff k hk).2 hu) hs.lt
  have up : ∀ k, m.U k → U' k := fun k hu => (hs.iff k (hlt k hu)).2 hu
  have quiet : ∀ k o, V k → Quiet m top Vc k o → Quiet ⟨w', m.ρ, U'⟩ top Vc k o := fun k o hv q => ⟨(hs.keep k hv).trans q.heap, q.mine, q.out, up k q.used⟩
  refine ⟨⟨hinv, h.st.size, fun j p v hp hv => (h.st.rel j p v hp hv).keep hK, h.st.defers, h.st.free, ?_, h.st.tsz, h.st.prot⟩, ⟨Vc, ⟨hc.one, fun k hk => up k (hc.used k hk), hc.more, hc.old, hc.mine, fun i Y st hb => ?_, fun k o hk => quiet k o (h.z k o hk).2 (hc.z k o hk), hc.nd, hc.late, fun d hd => ?_⟩, h1, quiet L o h.lrec q⟩, h.z, h.d, h.named, h.lrec, fun k hk hu => h.old k hk ((hs.iff k (Nat.lt_of_lt_of_le hk h.st.since.size)).1 hu), h.late⟩
  · have t := h.st.since
    refine ⟨hs.os.trans t.os, hs.tape.trans t.tape, hs.output.trans t.output, Nat.le_trans t.size hs.size, fun k hk hm hv => ?_, t.up, fun k hk => (hs.iff k (Nat.lt_of_lt_of_le hk t.size)).trans (t.U k hk), t.fresh⟩
    refine Eq.trans ?_ (t.heap k hk hm hv)
    by_cases hu : m.U k
    · rcases h.old k hk hu with e | e | e
      · exact hs.keep k e
      · exact absurd e hm
      · exact absurd e hv
    · exact hs.plain k (Nat.lt_of_lt_of_le hk t.size) hu
  · obtain ⟨e1, e2, e3⟩ := hc.gen i Y st hb
    exact ⟨e1, e2, e2 st Vc m.w m.U w' U' ⟨hs.os, hs.tape, hs.output, hs.size, hs.iff, hs.plain, fun k hk => hs.keep k (h1 k hk), hs.lt⟩ hc.used hlt e3⟩
  · obtain ⟨D, e1, e2⟩ := hc.d d hd
    exact ⟨D, e1, quiet D _ (h.d d hd D e1).2 e2⟩
theorem Held.ref {H : List (List Blk)} {m0 : M0} {a : Act} {L : Nat} {V : Nat → Prop} {m : M} {tm tm' : List PV} {top top' : List Blk} {o : Obj} (h : Held H m0 a L V m tm top o) {s : List Nat} (hr : Ref s tm top tm' top') : Held H m0 a L V (m.ren s top.length) tm' top' o := by
  obtain ⟨Vc, hc, h1, q⟩ := h.calm
  have hr' := hr
  obtain ⟨g1, g2, g3⟩ := hr'
  have hst := h.st.ref hr
  obtain ⟨hlen, hget⟩ := refB_get g3
  have mineLe : ∀ k, Mine (m.ren s top.length) top' k → Mine m top k := fun k => mine_ren g3
  have quiet : ∀ k o, Quiet m top Vc k o → Quiet (m.ren s top.length) top' Vc k o := fun k o q => ⟨q.heap, fun hm => q.mine (mineLe k hm), q.out, q.used⟩
  refine ⟨hst, ⟨Vc, ⟨fun i j Y st Y' st' q1 q2 => ?_, hc.used, hc.more, hc.old, fun k hk hm => hc.mine k hk (mineLe k hm), fun i Y st hi => ?_, fun k o hz => quiet k o (hc.z k o hz), hc.nd, hc.late, fun d hd => ?_⟩, h1, quiet L o q⟩, h.z, h.d, fun l i b v k e1 e2 e3 e4 => ?_, h.lrec, h.old, h.late⟩
  · obtain ⟨x, e1, e2⟩ := hget i _ q1
    obtain ⟨y, e3, e4⟩ := hget j _ q2
    obtain rfl := hc.one x y _ _ _ _ e2 e4
    exact nodup_get g1 i j x e1 e3
  · obtain ⟨j, _, e⟩ := hget i _ hi
    exact hc.gen j Y st e
  · obtain ⟨D, e1, e2⟩ := hc.d d hd
    exact ⟨D, e1, quiet _ _ e2⟩
  · cases l with
    | succ l => exact h.named (l + 1) i b v k e1 e2 e3 e4
    | zero =>
      obtain ⟨j, b0, v0, q1, q2, q3, q4⟩ := mineLe k ⟨i, b, v, e1, e2, e3, e4⟩
      exact h.named 0 j b0 v0 k q1 q2 q3 q4
end Go.Proofs.Ve

/- A range over a function: one round. -/
set_option linter.all false
namespace Go.Proofs.Ve
open Go

/-- the record of a range -/
def recL (fn : FuncId) (a : Act) (ps : Array Tmp) (asg body : Code) (dft : Nat) (st : LoopState) (pe : Option Code) : Loop := { state := st, pending := pe, fn, tmps := a.tmps, params := ps, assign := asg, body, defers := dft }
open Classical in
/-- what a round leaves alone: the record, the blocks of deferred calls, and what the frame leaves alone -/
noncomputable def zR (m0 : M0) (a : Act) (L : Nat) (o : Obj) : Nat → Option Obj := fun j => if j = L then some o else if (∃ d ∈ a.defers, d = { target := .collected j, args := #[] }) then some (.deferred (some [])) else m0.Z j
theorem zR_rec (m0 : M0) (a : Act) (L : Nat) (o : Obj) : zR m0 a L o L = some o := by simp [zR]
theorem zR_d {m0 : M0} {a : Act} {L : Nat} (o : Obj) {D : Nat} (h : D ≠ L) (hd : { target := .collected D, args := #[] } ∈ a.defers) : zR m0 a L o D = some (.deferred (some [])) := by
  unfold zR; rw [if_neg h, if_pos ⟨_, hd, rfl⟩]
theorem zR_cases {m0 : M0} {a : Act} {L : Nat} {o o' : Obj} {k : Nat} (h : zR m0 a L o k = some o') : (k = L ∧ o' = o) ∨ (k ≠ L ∧ ((∃ d ∈ a.defers, d = { target := .collected k, args := #[] }) ∧ o' = .deferred (some []) ∨ m0.Z k = some o')) := by
  unfold zR at h
  split at h
  · rename_i e; cases h; exact .inl ⟨e, rfl⟩
  · rename_i e
    split at h
    · rename_i e'; cases h; exact .inr ⟨e, .inl ⟨e', rfl⟩⟩
    · exact .inr ⟨e, .inr h⟩
theorem zR_z {m0 : M0} {a : Act} {L : Nat} (o : Obj) {k : Nat} {o' : Obj} (hk : k ≠ L) (hz : m0.Z k = some o') (hq : ∀ d ∈ a.defers, d = { target := .collected k, args := #[] } → o' = .deferred (some [])) : zR m0 a L o k = some o' := by
  unfold zR
  rw [if_neg hk]
  split
  · rename_i e; obtain ⟨d, h1, h2⟩ := e; rw [hq d h1 h2]
  · exact hz
theorem quiet_put {m : M} {top : List Blk} {V : Nat → Prop} {k : Nat} {o : Obj} (q : Quiet m top V k o) {L : Nat} (h : k ≠ L) (o' : Obj) : Quiet ⟨m.w.putObj L o', m.ρ, m.U⟩ top V k o := ⟨(heap_put h).trans q.heap, q.mine, q.out, q.used⟩

theorem round_spec {C : Cx} {H : List (List Blk)} {mo : List (Nat × Tr)} {asg body : Code} (hz : C.fcl = false) (hA : Sound C H mo asg) (hB : Sound C H mo body) {m0 : M0} {a : Act} {L : Nat} {V : Nat → Prop} {m : M} {tmS : List PV} {topS topN : List Blk} {Nx : Prop} {fn : FuncId} {ps : Array Tmp} {dft : Nat}
    (hh : Held H m0 a L V m tmS topS (.loop (recL fn a ps asg body dft .ready none))) {K : Exit → List PV → List Blk → Prop} {x : List YV} {W : List Nat} (hW1 : ∀ d ∈ ps.toList, d ∈ W) (hW2 : ∀ d ∈ dstsC asg, d ∈ W) (hW3 : ∀ d ∈ dstsC body, d ∈ W)
    (walk : putPs ps.toList x tmS fun tmr => wpM C H mo asg (fun e tm1 top1 => match e with
      | .normal => wpM C H mo body (fun e tm2 top2 => match e with
          | .normal => maskK W tm2 fun tm3 => Nx ∧ ∃ s, Ref s tm3 top2 tmS topN
          | e => maskK W tm2 fun tm3 => K e tm3 top2) tm1 top1
      | _ => False) tmr topS)
    (hVU : ∀ k, V k → m.U k) {vs : Array Value} (hl : x.length = vs.size) (hry : ∀ (j : Nat) y u, x[j]? = some y → vs[j]? = some u → RY m.w m.ok y u) :
    YieldAt Fence.wide 0 C.P L vs m.w fun e w' => ∃ (b : Bool) (U' V' : Nat → Prop), e = .returned (.bool b) ∧ YStep m.w m.U V w' U' V' ∧ ∃ ρ : Nat → Nat → Option Value,
      (b = true ∧ Nx ∧ Held H m0 a L V' ⟨w', ρ, U'⟩ tmS topN (.loop (recL fn a ps asg body dft .ready none))) ∨
      (b = false ∧ ∃ e c tmc topc, jumpC e = some c ∧ K e tmc topc ∧ Held H m0 a L V' ⟨w', ρ, U'⟩ tmc topc (.loop (recL fn a ps asg body dft .done (some c)))) := by
  obtain ⟨tmr, hwalk, hpl, htl, hput⟩ := putPs_spec _ _ _ _ walk
  obtain ⟨Vc, hc, hVc, q⟩ := hh.calm
  have hps : ps.toList.length = ps.size := Array.length_toList
  refine ⟨fn, _, asg, body, run_yield q.heap (by show vs.size = ps.size; omega), ?_⟩
  have hfold : (ps.zip vs).foldl (fun tmps (x : Nat × Value) => tmps.setIfInBounds x.1 x.2) a.tmps = (ps.toList.zip vs.toList).foldl (fun t (x : Nat × Value) => t.setIfInBounds x.1 x.2) a.tmps := by
    rw [← Array.foldl_toList, Array.toList_zip]
  obtain ⟨t1, t2, t3⟩ := hput m vs.toList a.tmps (by simp [hl]) (fun j y u hy hu => hry j y u hy (by simpa using hu)) hh.st.size hh.st.rel
  rw [← hfold] at t1 t2 t3
  show RoundIn Fence.wide 0 C.P L fn ((ps.zip vs).foldl (fun tmps (x : Nat × Value) => tmps.setIfInBounds x.1 x.2) a.tmps) asg body m.w _
  generalize (ps.zip vs).foldl (fun tmps (x : Nat × Value) => tmps.setIfInBounds x.1 x.2) a.tmps = t' at t1 t2 t3
  refine roundIn_of_wpIn (F := Fence.wide) trivial ?_
  show asg.wpIn (FW (some L)) 0 C.P _ _ _
  -- the round's own base
  let mA : M0 := { toM := m, g := topS, V := Vc, Z := zR m0 a L (.loop (recL fn a ps asg body dft .ready none)), W := fun j => j ∈ W, A := fun j => a.tmps[j]?, ds := [], tsz := m0.tsz, rnd := true }
  have hdq : ∀ d ∈ a.defers, ∀ D, d = { target := .collected D, args := #[] } → Quiet m topS Vc D (.deferred (some [])) := fun d hd D e => by
    obtain ⟨D', e1, e2⟩ := hc.d d hd
    rw [e1] at e; cases e; exact e2
  have FA : Full H mA m { tmps := t', defers := [] } tmr topS := by
    refine ⟨⟨hh.st.inv, by show t'.size = tmr.length; rw [t1, htl]; exact hh.st.size, t3, rfl, hh.st.free, ⟨rfl, rfl, rfl, Nat.le_refl _, fun _ _ _ _ => rfl, fun _ _ => rfl, fun _ _ => Iff.rfl, fun k hk => .inr hk⟩, by show t'.size = m0.tsz; rw [t1]; exact hh.st.tsz, fun j hj => t2 j (fun h => hj (hW1 j h))⟩, Vc, ?_⟩
    refine ⟨hc.one, hc.used, fun k h => h, fun k h _ => h, hc.mine, hc.gen, fun k o hk => ?_, List.nodup_nil, (fun h => by cases h), fun d hd => by cases hd⟩
    rcases zR_cases hk with ⟨rfl, rfl⟩ | ⟨hne, ⟨⟨d, hd, e⟩, rfl⟩ | hz⟩
    · exact q
    · exact hdq d hd k e
    · exact hc.z k o hz
  refine wpIn_mono (hA (some L) mA _ tmr topS m { tmps := t', defers := [] } (fun l e => by cases e; exact ⟨_, zR_rec m0 a L _⟩) hW2 (fun h => by rw [hz] at h; cases h) hwalk FA) ?_
  rintro e a1 w1 ⟨hok, tm1, top1, m1, rfl, hk1, s1, V1, c1⟩
  cases e with
  | normal => ?_
  | _ => exact hk1.elim
  have q1 : Quiet m1 top1 V1 L (.loop (recL fn a ps asg body dft .ready none)) := c1.z L _ (zR_rec m0 a L _)
  refine ⟨_, run_beginRound q1.heap rfl, ?_⟩
  show body.wpIn (FW (some L)) 0 C.P _ _ (m1.w.putObj L (.loop (recL fn a ps asg body dft .busy none)))
  have hsz1 := size_put m1.w L (.loop (recL fn a ps asg body dft .busy none))
  generalize hob : Obj.loop (recL fn a ps asg body dft .busy none) = ob at hsz1 ⊢
  let m1' : M := ⟨m1.w.putObj L ob, m1.ρ, m1.U⟩
  have hL1 := (Array.getElem?_eq_some_iff.1 q1.heap).1
  have upρ : ∀ l i, m1.ρ (l + 1) i = m.ρ (l + 1) i := s1.since.up
  have nm1 : ∀ l i b v, getB top1 H l i = some b → b.live = true → m1.ρ l i = some v → blkOf v ≠ some L := fun l i b v e1 e2 e3 e4 => by
    cases l with
    | zero => exact q1.mine ⟨i, b, v, e1, e2, e3, e4⟩
    | succ l => rw [upρ] at e3; exact (hh.named (l + 1) i b v L e1 e2 e3 e4).2 rfl
  have hK1 : Keep m1 m1' := ⟨fun _ _ _ h => h, Nat.le_of_eq hsz1.symm, fun k hk => ⟨hk.2, heap_put (fun e => hk.2 (e ▸ q1.used))⟩⟩
  have hinv1 : Inv m1' top1 H := inv_other s1.inv rfl hK1 (fun l i b v k e1 e2 e3 e4 => heap_put (fun e => nm1 l i b v e1 e2 e3 (e ▸ e4))) (fun _ _ h => h) (fun k hk => by show k < (m1.w.putObj L ob).heap.size; rw [hsz1]; exact s1.inv.lt k hk)
  let mB : M0 := { toM := m1', g := top1, V := V1, Z := zR m0 a L ob, W := fun j => j ∈ W, A := fun j => a.tmps[j]?, ds := [], tsz := m0.tsz, rnd := true }
  have qz : ∀ k o, zR m0 a L ob k = some o → Quiet m1' top1 V1 k o := fun k o hk => by
    rcases zR_cases hk with ⟨rfl, rfl⟩ | ⟨hne, h⟩
    · exact ⟨World.putObj_heap_same hL1, q1.mine, q1.out, q1.used⟩
    · refine quiet_put (c1.z k o ?_) hne ob
      show zR m0 a L _ k = some o
      rcases h with ⟨⟨d, hd, e⟩, rfl⟩ | hz
      · exact zR_d _ hne (e ▸ hd)
      · refine zR_z _ hne hz (fun d hd e => ?_)
        have h1 := (hdq d hd k e).heap
        rw [(hc.z k o hz).heap] at h1
        exact Option.some.inj h1
  have FB : Full H mB m1' a1 tm1 top1 := by
    refine ⟨⟨hinv1, s1.size, fun j p v hp hv => (s1.rel j p v hp hv).keep hK1, rfl, s1.free, ⟨rfl, rfl, rfl, Nat.le_refl _, fun _ _ _ _ => rfl, fun _ _ => rfl, fun _ _ => Iff.rfl, fun k hk => .inr hk⟩, s1.tsz, s1.prot⟩, V1, ?_⟩
    refine ⟨c1.one, c1.used, fun k h => h, fun k h _ => h, c1.mine, fun i Y st hb => ?_, qz, c1.nd, (fun h => by cases h), fun d hd => ?_⟩
    · obtain ⟨e1, e2, e3⟩ := c1.gen i Y st hb
      exact ⟨e1, e2, e2 st V1 m1.w m1.U _ m1.U ⟨rfl, rfl, rfl, Nat.le_of_eq hsz1.symm, fun _ _ => Iff.rfl, fun k _ hk => heap_put (fun e => hk (e ▸ q1.used)), fun k hk => heap_put (fun e => q1.out (e ▸ hk)), hinv1.lt⟩ c1.used s1.inv.lt e3⟩
    · obtain ⟨D, e1, e2⟩ := c1.d d hd
      refine ⟨D, e1, quiet_put e2 (fun e => ?_) ob⟩
      rw [e] at e2
      have := e2.heap.symm.trans q1.heap
      cases this
  refine wpIn_mono (hB (some L) mB _ tm1 top1 m1' a1 (fun l e => by cases e; exact ⟨_, by show zR m0 a L ob L = _; rw [zR_rec, ← hob]⟩) hW3 (fun h => by rw [hz] at h; cases h) hk1 FB) ?_
  rintro e2 a2 w2 ⟨hok2, tm2, top2, m2, rfl, hk2, s2, V2, c2⟩
  have q2 : Quiet m2 top2 V2 L ob := c2.z L _ (zR_rec m0 a L ob)
  have hq2 : m2.w.heap[L]? = some (.loop (recL fn a ps asg body dft .busy none)) := by rw [hob]; exact q2.heap
  have hL2 := (Array.getElem?_eq_some_iff.1 q2.heap).1
  have hlt := hh.st.inv.lt
  have S1 := s1.since
  have S2 := s2.since
  have hz1 : m.w.heap.size ≤ m1.w.heap.size := S1.size
  have hz2 : m1.w.heap.size ≤ m2.w.heap.size := by have := S2.size; rw [show mB.w.heap.size = m1.w.heap.size from hsz1] at this; exact this
  have mine1 : ∀ k, Mine m1 top1 k → m.w.heap.size ≤ k ∨ V k := fun k hk => (S1.fresh k hk).imp id (fun ⟨i, b, v, e1, e2, e3, e4⟩ => (hh.named 0 i b v k e1 e2 e3 e4).1)
  have mine2 : ∀ k, Mine m2 top2 k → m.w.heap.size ≤ k ∨ V k := fun k hk => by
    rcases S2.fresh k hk with h | h
    · left
      have h : (m1.w.putObj L ob).heap.size ≤ k := h
      rw [hsz1] at h; omega
    · exact mine1 k (mine_other (m := m1) (m' := m1') rfl h)
  have v1 : ∀ k, V1 k → m.w.heap.size ≤ k ∨ V k := fun k hk => by
    rcases Nat.lt_or_ge k m.w.heap.size with h | h
    · exact .inr (hVc k (c1.old k hk h))
    · exact .inl h
  have v2 : ∀ k, V2 k → m.w.heap.size ≤ k ∨ V k := fun k hk => by
    rcases Nat.lt_or_ge k m.w.heap.size with h | h
    · exact v1 k (c2.old k hk (by show k < (m1.w.putObj L ob).heap.size; rw [hsz1]; omega))
    · exact .inl h
  have heap2 : ∀ k, k < m.w.heap.size → ¬ V k → m2.w.heap[k]? = m.w.heap[k]? := fun k hk hv => by
    have e2 := S2.heap k (by show k < (m1.w.putObj L ob).heap.size; rw [hsz1]; omega) (fun h => (mine1 k (mine_other (m := m1) (m' := m1') rfl h)).elim (fun h => by omega) hv) (fun h => (v1 k h).elim (fun h => by omega) hv)
    have e1 := S1.heap k hk (fun ⟨i, b, v, e1, e2, e3, e4⟩ => hv (hh.named 0 i b v k e1 e2 e3 e4).1) (fun h => hv (hVc k h))
    have hne : k ≠ L := fun e => hv (e ▸ hh.lrec)
    exact (e2.trans (heap_put hne)).trans e1
  have U2 : ∀ k, k < m.w.heap.size → (m2.U k ↔ m.U k) := fun k hk => (S2.U k (by show k < (m1.w.putObj L ob).heap.size; rw [hsz1]; omega)).trans (S1.U k hk)
  have os2 : m2.w.os = m.w.os := S2.os.trans S1.os
  have tape2 : m2.w.tape = m.w.tape := S2.tape.trans S1.tape
  have output2 : m2.w.output = m.w.output := S2.output.trans S1.output
  have up2 : ∀ l i, m2.ρ (l + 1) i = m.ρ (l + 1) i := fun l i => (S2.up l i).trans (S1.up l i)
  have nm2 : ∀ l i b v, getB top2 H l i = some b → b.live = true → m2.ρ l i = some v → blkOf v ≠ some L := fun l i b v e1 e2 e3 e4 => by
    cases l with
    | zero => exact q2.mine ⟨i, b, v, e1, e2, e3, e4⟩
    | succ l => rw [up2] at e3; exact (hh.named (l + 1) i b v L e1 e2 e3 e4).2 rfl
  -- how the frame stands behind the round
  have close : ∀ (o3 : Obj) (tm3 : List PV), tm3.length = tm2.length → (∀ (j : Nat) p, tm3[j]? = some p → p = .any ∨ (j ∉ W ∧ tm2[j]? = some p)) →
      YStep m.w m.U V (m2.w.putObj L o3) m2.U (fun k => V k ∨ (m.w.heap.size ≤ k ∧ m2.U k)) ∧ Held H m0 a L (fun k => V k ∨ (m.w.heap.size ≤ k ∧ m2.U k)) ⟨m2.w.putObj L o3, m2.ρ, m2.U⟩ tm3 top2 o3 := by
    intro o3 tm3 hl3 hr3
    have hsz3 := size_put m2.w L o3
    have hK3 : Keep m2 ⟨m2.w.putObj L o3, m2.ρ, m2.U⟩ := ⟨fun _ _ _ h => h, Nat.le_of_eq hsz3.symm, fun k hk => ⟨hk.2, heap_put (fun e => hk.2 (e ▸ q2.used))⟩⟩
    have hinv3 : Inv ⟨m2.w.putObj L o3, m2.ρ, m2.U⟩ top2 H := inv_other s2.inv rfl hK3 (fun l i b v k e1 e2 e3 e4 => heap_put (fun e => nm2 l i b v e1 e2 e3 (e ▸ e4))) (fun _ _ h => h) (fun k hk => by show k < (m2.w.putObj L o3).heap.size; rw [hsz3]; exact s2.inv.lt k hk)
    have toV : ∀ k, m2.U k → (m.w.heap.size ≤ k ∨ V k) → V k ∨ (m.w.heap.size ≤ k ∧ m2.U k) := fun k hu h => h.elim (fun h => .inr ⟨h, hu⟩) .inl
    refine ⟨⟨os2, tape2, output2, by rw [hsz3]; omega, U2, fun k hk hv => (heap_put (fun e => hv (by rw [e]; exact hh.lrec))).trans (heap2 k hk hv), fun k h => .inl h, fun k h => h.imp id (·.1), fun k h => h.elim (fun h => (U2 k (hlt k (hVU k h))).2 (hVU k h)) (·.2), hinv3.lt⟩, ?_⟩
    have t := hh.st.since
    refine ⟨⟨hinv3, ?_, fun j p v hp hv => ?_, rfl, s2.free, ⟨os2.trans t.os, tape2.trans t.tape, output2.trans t.output, by show _ ≤ (m2.w.putObj L o3).heap.size; rw [hsz3]; have := t.size; omega, fun k hk hm hv => ?_, fun l i => (up2 l i).trans (t.up l i), fun k hk => (U2 k (Nat.lt_of_lt_of_le hk t.size)).trans (t.U k hk), fun k hk => ?_⟩, hh.st.tsz, hh.st.prot⟩, ⟨V2, ⟨c2.one, c2.used, fun k h => c2.more k (c1.more k (hc.more k h)), fun k h hk => ?_, c2.mine, fun i Y st hb => ?_, fun k o hz => ?_, hc.nd, hc.late, fun d hd => ?_⟩, fun k h => toV k (c2.used k h) (v2 k h), World.putObj_heap_same hL2, q2.mine, q2.out, q2.used⟩, fun k o hz => ⟨(hh.z k o hz).1, .inl (hh.z k o hz).2⟩, fun d hd D e => ⟨(hh.d d hd D e).1, .inl (hh.d d hd D e).2⟩, fun l i b v k e1 e2 e3 e4 => ?_, .inl hh.lrec, fun k hk hu => ?_, hh.late⟩
    · show a.tmps.size = tm3.length
      rw [hl3, ← s2.size, hh.st.tsz, s2.tsz]
    · rcases hr3 j p hp with rfl | ⟨hj, hp2⟩
      · exact .any _
      · have hv2 : a2.tmps[j]? = some v := by rw [s2.prot j hj]; exact hv
        exact (s2.rel j p v hp2 hv2).keep hK3
    · have hk' : k < m.w.heap.size := Nat.lt_of_lt_of_le hk t.size
      have e0 := t.heap k hk hm hv
      refine Eq.trans ?_ e0
      have hne : k ≠ L := fun e => absurd hk (by rw [e]; exact Nat.not_lt.2 hh.late)
      have e2 := S2.heap k (by show k < (m1.w.putObj L ob).heap.size; rw [hsz1]; omega) (fun h => ?_) (fun h => ?_)
      · have e1 := S1.heap k hk' (fun h => ?_) (fun h => hv (hc.old k h hk))
        · exact ((heap_put hne).trans (e2.trans (heap_put hne))).trans e1
        · exact (t.fresh k h).elim (fun h => absurd hk (by show ¬ k < m0.w.heap.size; exact Nat.not_lt.2 h)) hm
      · rcases S1.fresh k (mine_other (m := m1) (m' := m1') rfl h) with h1 | h1
        · exact absurd hk' (Nat.not_lt.2 h1)
        · exact (t.fresh k h1).elim (fun h => absurd hk (Nat.not_lt.2 h)) hm
      · exact hv (hc.old k (c1.old k h hk') hk)
    · rcases S2.fresh k (mine_other (m := m2) rfl hk) with h | h
      · left
        have h : (m1.w.putObj L ob).heap.size ≤ k := h
        rw [hsz1] at h
        have := t.size
        exact Nat.le_trans this (Nat.le_trans hz1 h)
      · rcases S1.fresh k (mine_other (m := m1) (m' := m1') rfl h) with h1 | h1
        · exact .inl (Nat.le_trans t.size h1)
        · exact t.fresh k h1
    · have hk' : k < m.w.heap.size := Nat.lt_of_lt_of_le hk t.size
      exact hc.old k (c1.old k (c2.old k h (by show k < (m1.w.putObj L ob).heap.size; rw [hsz1]; omega)) hk') hk
    · obtain ⟨e1, e2, e3⟩ := c2.gen i Y st hb
      exact ⟨e1, e2, e2 st V2 m2.w m2.U _ m2.U ⟨rfl, rfl, rfl, Nat.le_of_eq hsz3.symm, fun _ _ => Iff.rfl, fun k _ hk => heap_put (fun e => hk (e ▸ q2.used)), fun k hk => heap_put (fun e => q2.out (e ▸ hk)), hinv3.lt⟩ c2.used s2.inv.lt e3⟩
    · have hne := (hh.z k o hz).1
      refine quiet_put (c2.z k o (zR_z _ hne hz (fun d hd e => ?_))) hne o3
      have h1 := (hdq d hd k e).heap
      rw [(hc.z k o hz).heap] at h1
      exact Option.some.inj h1
    · obtain ⟨D, e1, _⟩ := hc.d d hd
      have hne := (hh.d d hd D e1).1
      exact ⟨D, e1, quiet_put (c2.z D _ (zR_d _ hne (e1 ▸ hd))) hne o3⟩
    · cases l with
      | zero =>
        have hm : Mine m2 top2 k := ⟨i, b, v, e1, e2, e3, e4⟩
        have hu := s2.inv.own 0 i b v k e1 e2 e3 e4
        exact ⟨toV k hu (mine2 k hm), fun e => q2.mine (e ▸ hm)⟩
      | succ l =>
        have e3' : m.ρ (l + 1) i = some v := by rw [← up2]; exact e3
        have := hh.named (l + 1) i b v k e1 e2 e3' e4
        exact ⟨.inl this.1, this.2⟩
    · have hk' : k < m.w.heap.size := Nat.lt_of_lt_of_le hk t.size
      exact (hh.old k hk ((U2 k hk').1 hu)).imp .inl id
  have leave : ∀ (c : Code) (e : Exit), jumpC e = some c → maskK W tm2 (fun tm3 => K e tm3 top2) → ∃ v w', (Instr.endRound L (some c)).run C.P m2.w = .ok v w' ∧ ∃ (b : Bool) (U' V' : Nat → Prop), Ending.returned v = .returned (.bool b) ∧ YStep m.w m.U V w' U' V' ∧ ∃ ρ : Nat → Nat → Option Value,
      (b = true ∧ Nx ∧ Held H m0 a L V' ⟨w', ρ, U'⟩ tmS topN (.loop (recL fn a ps asg body dft .ready none))) ∨
      (b = false ∧ ∃ e c tmc topc, jumpC e = some c ∧ K e tmc topc ∧ Held H m0 a L V' ⟨w', ρ, U'⟩ tmc topc (.loop (recL fn a ps asg body dft .done (some c)))) := by
    intro c e hj hk
    obtain ⟨tm3, hk3, hl3, hr3⟩ := maskK_spec _ _ _ hk
    obtain ⟨y, hd⟩ := close (.loop (recL fn a ps asg body dft .done (some c))) tm3 hl3 hr3
    exact ⟨_, _, run_endRound (some c) hq2, false, m2.U, _, rfl, y, m2.ρ, .inr ⟨rfl, e, c, tm3, top2, hj, hk3, hd⟩⟩
  cases e2 with
  | normal =>
    obtain ⟨tm3, ⟨hnx, s, hr⟩, hl3, hr3⟩ := maskK_spec _ _ _ hk2
    obtain ⟨y, hd⟩ := close (.loop (recL fn a ps asg body dft .ready none)) tm3 hl3 hr3
    exact ⟨_, _, run_endRound none hq2, true, m2.U, _, rfl, y, _, .inl ⟨rfl, hnx, hd.ref hr⟩⟩
  | ret => exact leave .ret .ret rfl hk2
  | exit id => exact leave (.exit id) (.exit id) rfl hk2
  | goto l => exact leave (.goto l) (.goto l) rfl hk2
  | panic ch => cases hok2
  | outgrown => cases hok2
end Go.Proofs.Ve

/- A range over a function: what the value machine says of it is so. -/
set_option linter.all false
namespace Go.Proofs.Ve
open Go

theorem capsK_spec {top : List Blk} : ∀ (ps : List PV) (bs0 : List Nat) (K : List PV → List Nat → List RowB → Prop), bs0.Nodup → capsK top ps bs0 K →
    ∃ ps' bs G, K ps' bs G ∧ bs.length = G.length ∧ (bs0 ++ bs).Nodup ∧ (∀ (g : Nat) i, bs[g]? = some i → ∃ (r : RowB) (cs : List PV) (ds : List DV), G[g]? = some r ∧ top[i]? = some (.box cs) ∧ r.blk = .box (dpv ds) ∧ ds.length = cs.length ∧
        ∀ (m : M) (u : Nat → Value), (∀ (j : Nat) p, cs[j]? = some p → RP m p (u j)) → ∀ (j : Nat) y, ds[j]? = some y → RD m.w m.ok y (u j)) ∧
      ∀ (m : M) (ba : List Nat), (bs0 ++ bs) <+: ba → ps'.length = ps.length ∧ ∀ (j : Nat) p' v, ps'[j]? = some p' → (∀ p, ps[j]? = some p → RP m p v) → RP (giveM m ba) p' v
  | [], bs0, K, hnd, h => ⟨[], [], [], h, rfl, by simpa using hnd, fun g i hg => by simp at hg, fun m ba _ => ⟨rfl, fun j p' v hp => by simp at hp⟩⟩
  | p :: ps, bs0, K, hnd, h => by
    have plain : ∀ (p : PV), dvK p (fun x => capsK top ps bs0 fun ps' bs' G => K (.d x :: ps') bs' G) → (∃ ps' bs G, K ps' bs G ∧ bs.length = G.length ∧ (bs0 ++ bs).Nodup ∧ (∀ (g : Nat) i, bs[g]? = some i → ∃ (r : RowB) (cs : List PV) (ds : List DV), G[g]? = some r ∧ top[i]? = some (.box cs) ∧ r.blk = .box (dpv ds) ∧ ds.length = cs.length ∧
        ∀ (m : M) (u : Nat → Value), (∀ (j : Nat) p, cs[j]? = some p → RP m p (u j)) → ∀ (j : Nat) y, ds[j]? = some y → RD m.w m.ok y (u j)) ∧
      ∀ (m : M) (ba : List Nat), (bs0 ++ bs) <+: ba → ps'.length = (p :: ps).length ∧ ∀ (j : Nat) p' v, ps'[j]? = some p' → (∀ q, (p :: ps)[j]? = some q → RP m q v) → RP (giveM m ba) p' v) := by
      intro p h
      have key : ∃ x, (capsK top ps bs0 fun ps' bs' G => K (.d x :: ps') bs' G) ∧ ∀ m v, RP m p v → RP m (.d x) v := by
        unfold dvK at h
        split at h
        · exact ⟨_, h, fun m v hv => hv⟩
        · exact ⟨_, h, fun m v hv => by cases hv; exact rd_bool _⟩
        · exact ⟨_, h, fun m v hv => by cases hv; exact .d _ _ (.sl 0 [] none 0 0 default (fun _ => undef) rfl (Nat.le_refl _) (by omega) (by omega) (by simp) (fun i x j y hx => by simp at hx) (fun i x j y hx => by simp at hx))⟩
        · exact ⟨_, h, fun m v hv => by cases hv with | emp ad => exact .d _ _ (.sl 0 [] (some ad) 0 0 default (fun _ => undef) rfl (Nat.le_refl _) (by omega) (by omega) (by simp) (fun i x j y hx => by simp at hx) (fun i x j y hx => by simp at hx))⟩
        · exact h.elim
      obtain ⟨x, h, hx⟩ := key
      obtain ⟨ps', bs, G, hk, h1, h2, h3, h4⟩ := capsK_spec ps bs0 _ hnd h
      refine ⟨_, _, _, hk, h1, h2, h3, fun m ba hpre => ?_⟩
      obtain ⟨q1, q2⟩ := h4 m ba hpre
      refine ⟨by simp [q1], fun j p' v hp hv => ?_⟩
      cases j with
      | zero =>
        simp at hp
        subst hp
        exact RP.other (m := m) (m' := giveM m ba) rfl (fun _ h => h) rfl (hx m v (hv p rfl))
      | succ j => exact q2 j p' v (by simpa using hp) (fun p0 h0 => hv p0 (by simpa using h0))
    rw [capsK_cons] at h
    unfold capOneK at h
    split at h
    · rename_i i o
      obtain ⟨b, hb, h⟩ := getK_spec.1 h
      split at h
      case h_2 => exact h.elim
      rename_i cs
      split at h
      · exact h.elim
      · rename_i hno
        obtain ⟨ds, h, hdl, hds⟩ := dvsK_spec h
        rw [lenK_spec] at h
        dsimp only at h
        rw [snocK_spec] at h
        have hni : i ∉ bs0 := fun hi => by
          rw [List.any_eq_false] at hno
          exact hno i hi (by simp)
        obtain ⟨ps', bs, G, hk, h1, h2, h3, h4⟩ := capsK_spec ps _ _ (by
          rw [List.nodup_append]
          refine ⟨hnd, by simp, fun a ha b hb e => ?_⟩
          simp at hb; subst hb; subst e; exact hni ha) h
        refine ⟨_, _, _, hk, by simp [h1], by simpa using h2, fun g j hg => ?_, fun m ba hpre => ?_⟩
        · cases g with
          | zero => simp at hg; subst hg; exact ⟨⟨0, 0, [ds]⟩, cs, ds, rfl, hb, rfl, hdl, hds⟩
          | succ g => exact h3 g j (by simpa using hg)
        · obtain ⟨q1, q2⟩ := h4 m ba (by simpa using hpre)
          refine ⟨by simp [q1], fun j p' v hp hv => ?_⟩
          cases j with
          | zero =>
            simp at hp
            subst hp
            have := hv _ rfl
            cases this with
            | ptr _ _ _ g hρ =>
              refine .ptr _ _ _ g ?_
              obtain ⟨t, rfl⟩ := hpre
              simp [giveM, hρ]
          | succ j => exact q2 j p' v (by simpa using hp) (fun p0 h0 => hv p0 (by simpa using h0))
    · obtain ⟨x, hx⟩ : ∃ y : PV, y = p := ⟨p, rfl⟩
      refine plain p ?_
      unfold dvK at h ⊢
      split at h <;> first | exact h | exact h.elim

theorem range_spec {C : Cx} (hC : C.Ok) {H : List (List Blk)} {mo : List (Nat × Tr)} {asg body : Code} (hz : C.fcl = false) (hA : Sound C H mo asg) (hB : Sound C H mo body) {r : Option Nat} {m0 : M0} {K : Exit → List PV → List Blk → Prop} {tm : List PV} {top : List Blk} {m : M} {a : Act} {g : Operand} {ps : Array Tmp}
    (hRC : ∀ l, r = some l → ∃ r0, m0.Z l = some (.loop r0)) (h : rangeK C g ps.toList (appL ps.toList (appL (dstsC asg) (dstsC body))) (wpM C H mo asg) (wpM C H mo body) K tm top) (hs : Full H m0 m a tm top) :
    (Code.rangeFunc g ps asg body).wpIn (FW r) 0 C.P (Post H m0 K) a m.w := by
  unfold rangeK at h
  obtain ⟨p, hp, h⟩ := evK_ev h
  split at h
  case h_2 => exact h.elim
  rename_i f cs
  simp only [ifK] at h
  split at h
  case h_2 => exact h.elim
  rename_i hpl
  obtain ⟨args, bs, G, h, hbl, hnd, hbs, hargs⟩ := capsK_spec cs [] _ List.nodup_nil h
  rw [List.nil_append] at hnd
  obtain ⟨top1, h, hl1, hd1, hs1⟩ := hideK_spec bs _ h
  unfold RangeV at h
  obtain ⟨xs, tmS, S, I, hIter, ⟨hI0, s0, hr0⟩, hrounds, hend⟩ := h
  obtain ⟨st, Vc, calm⟩ := hs
  have hval := eval_of st hp
  generalize hve : a.eval g = v at hval
  cases hval with
  | func _ _ _ fv cv e1 e2 r1 r2 => ?_
  obtain rfl : fv = #[] := Array.eq_empty_of_size_eq_zero e1.symm
  refine wpIn_rangeFunc ?_
  intro fn hfn
  -- entering
  have enter : ∃ (L : Nat) (mk : List Deferred) (dft : Nat) (W1 : World) (U1 : Nat → Prop), (Instr.enterLoop fn a.tmps ps asg body r).run C.P m.w = .ok (L, mk) W1 ∧
      St H { m0 with ds := mk ++ a.defers } ⟨W1, m.ρ, U1⟩ { a with defers := mk ++ a.defers } tm top ∧ Calm H m0 ⟨W1, m.ρ, U1⟩ (mk ++ a.defers) top Vc ∧ Quiet ⟨W1, m.ρ, U1⟩ top Vc L (.loop (recL fn a ps asg body dft .ready none)) ∧
      m.w.heap.size ≤ L ∧ (∀ k, k < m.w.heap.size → (U1 k ↔ m.U k)) ∧ (∀ d ∈ mk ++ a.defers, ∀ D, d = { target := .collected D, args := #[] } → D ≠ L) ∧
      m.w.heap.size ≤ W1.heap.size ∧ (∀ k, k < m.w.heap.size → W1.heap[k]? = m.w.heap[k]?) := by
    cases r with
    | none =>
      obtain ⟨a1, a2, a3⟩ := full_alloc (ds := a.defers) st ⟨calm.one, calm.used, calm.more, calm.old, calm.mine, calm.gen, calm.z, calm.nd, calm.late, calm.d⟩ (.deferred (some []))
      have c2 : Calm H m0 ⟨m.w.alloc (.deferred (some [])), m.ρ, fun k => m.U k ∨ k = m.w.heap.size⟩ ({ target := .collected m.w.heap.size, args := #[] } :: a.defers) top Vc := by
        refine ⟨a2.one, a2.used, a2.more, a2.old, a2.mine, a2.gen, a2.z, List.nodup_cons.2 ⟨fun hm => ?_, a2.nd⟩, fun hr d hd D e => ?_, fun d hd => ?_⟩
        · obtain ⟨D, q1, q2⟩ := calm.d _ hm
          cases q1
          have := (Array.getElem?_eq_some_iff.1 q2.heap).1
          omega
        · rcases List.mem_cons.1 hd with rfl | hd
          · cases e; exact st.since.size
          · exact calm.late hr d hd D e
        · rcases List.mem_cons.1 hd with rfl | hd
          · exact ⟨_, rfl, a3⟩
          · exact a2.d d hd
      obtain ⟨b1, b2, b3⟩ := full_alloc (ds := { target := .collected m.w.heap.size, args := #[] } :: a.defers) a1 ⟨c2.one, c2.used, c2.more, c2.old, c2.mine, c2.gen, c2.z, c2.nd, c2.late, c2.d⟩ (.loop (recL fn a ps asg body m.w.heap.size .ready none))
      refine ⟨(m.w.alloc (.deferred (some []))).heap.size, [{ target := .collected m.w.heap.size, args := #[] }], m.w.heap.size, _, _, by rw [World.size_alloc]; exact run_enterLoop_outer _ _ _ _ _, ⟨b1.inv, b1.size, b1.rel, rfl, b1.free, ⟨b1.since.os, b1.since.tape, b1.since.output, b1.since.size, b1.since.heap, b1.since.up, b1.since.U, b1.since.fresh⟩, b1.tsz, b1.prot⟩, ⟨b2.one, b2.used, b2.more, b2.old, b2.mine, b2.gen, b2.z, b2.nd, b2.late, b2.d⟩, b3, by rw [World.size_alloc]; omega, fun k hk => ?_, fun d hd D e => ?_, by show _ ≤ ((m.w.alloc (.deferred (some []))).alloc _).heap.size; rw [World.size_alloc, World.size_alloc]; omega, fun k hk => (heap_old _ _ _ (by rw [World.size_alloc]; omega)).trans (heap_old _ _ _ hk)⟩
      · show ((m.U k ∨ k = m.w.heap.size) ∨ k = (m.w.alloc (.deferred (some []))).heap.size) ↔ m.U k
        rw [World.size_alloc]
        exact ⟨fun h => h.elim (fun h => h.elim id (fun h => by omega)) (fun h => by omega), fun h => .inl (.inl h)⟩
      · rcases List.mem_append.1 hd with hd | hd
        · simp at hd; rw [hd] at e; cases e; rw [World.size_alloc]; omega
        · obtain ⟨D', q1, q2⟩ := calm.d d hd
          rw [q1] at e; cases e
          have := (Array.getElem?_eq_some_iff.1 q2.heap).1
          rw [World.size_alloc]; omega
    | some l0 =>
      obtain ⟨r0, hr0⟩ := hRC l0 rfl
      obtain ⟨b1, b2, b3⟩ := full_alloc (ds := a.defers) st ⟨calm.one, calm.used, calm.more, calm.old, calm.mine, calm.gen, calm.z, calm.nd, calm.late, calm.d⟩ (.loop (recL fn a ps asg body r0.defers .ready none))
      refine ⟨m.w.heap.size, [], r0.defers, _, _, run_enterLoop_inner (calm.z l0 _ hr0).heap _ _ _ _ _, b1, ⟨b2.one, b2.used, b2.more, b2.old, b2.mine, b2.gen, b2.z, b2.nd, b2.late, b2.d⟩, b3, Nat.le_refl _, fun k hk => ⟨fun h => h.elim id (fun h => by omega), .inl⟩, fun d hd D e => ?_, by show _ ≤ (m.w.alloc _).heap.size; rw [World.size_alloc]; omega, fun k hk => heap_old _ _ _ hk⟩
      obtain ⟨D', q1, q2⟩ := calm.d d hd
      rw [q1] at e; cases e
      have := (Array.getElem?_eq_some_iff.1 q2.heap).1
      omega
  obtain ⟨L, mk, dft, W1, U1, hent, st1, calm1, q1, hL, hU1, hdL, hsz01, hheap01⟩ := enter
  let a' : Act := { a with defers := mk ++ a.defers }
  let m1 : M := ⟨W1, m.ρ, U1⟩
  have hinv1 : Inv m1 top H := st1.inv
  have hK01 : Keep m m1 := ⟨fun _ _ _ h => h, hsz01, fun k hk => ⟨fun hu => hk.2 ((hU1 k hk.1).1 hu), hheap01 k hk.1⟩⟩
  -- what the iterator is given
  have inBs : ∀ i, i ∈ bs → ∃ (g : Nat) (cs : List PV), bs[g]? = some i ∧ top[i]? = some (.box cs) := fun i hi => by
    obtain ⟨g, hg⟩ := List.mem_iff_getElem?.1 hi
    obtain ⟨r', cs', ds, h1, h2, _⟩ := hbs g i hg
    exact ⟨g, cs', hg, h2⟩
  have gget : ∀ (g : Nat) (r' : RowB), G[g]? = some r' → ∃ i, bs[g]? = some i := fun g r' hg => ⟨_, List.getElem?_eq_getElem (by rw [hbl]; exact (List.getElem?_eq_some_iff.1 hg).1)⟩
  have givOf : ∀ k, Mine (giveM m1 bs) (G.map RowB.blk) k → ∃ i cs v, i ∈ bs ∧ top[i]? = some (.box cs) ∧ m.ρ 0 i = some v ∧ blkOf v = some k := by
    rintro k ⟨g, b, v, h1, h2, h3, h4⟩
    rw [List.getElem?_map] at h1
    obtain ⟨r', hr', rfl⟩ := Option.map_eq_some_iff.1 h1
    obtain ⟨i, hi⟩ := gget g r' hr'
    obtain ⟨_, cs', _, _, h6, _⟩ := hbs g i hi
    simp only [giveM, hi, Option.bind_some] at h3
    exact ⟨i, cs', v, List.mem_of_getElem? hi, h6, h3, h4⟩
  have hinvG : Inv (giveM m1 bs) (G.map RowB.blk) [] := by
    refine ⟨fun l i b hb => ?_, fun l i b l' i' b' v v' k h1 h2 h3 h4 h5 h6 h7 h8 => ?_, fun l i b v k h1 h2 h3 h4 => ?_, hinv1.lt⟩
    · cases l with
      | succ l => simp [getB] at hb
      | zero =>
        simp only [getB, List.getElem?_map] at hb
        obtain ⟨r', hr', rfl⟩ := Option.map_eq_some_iff.1 hb
        obtain ⟨j, hj⟩ := gget i r' hr'
        obtain ⟨r2, cs', ds, q1', q2', q3', q4', q5'⟩ := hbs i j hj
        rw [hr'] at q1'; cases q1'
        rw [q3']
        intro v hv
        simp only [giveM, hj, Option.bind_some] at hv
        obtain ⟨gg, vs, e, rfl, w1, w2, w3⟩ := hinv1.blk 0 j _ q2' v hv
        refine ⟨gg, vs, e, rfl, w1, by rw [w2, dpv_eq, List.length_map, q4'], fun x p u hp hu => ?_⟩
        obtain ⟨y, hy, rfl⟩ := dpv_get hp
        refine .d _ _ ((show u = (fun j => (vs[j]?).getD undef) x from by simp [hu]) ▸ q5' m1 (fun j => (vs[j]?).getD undef) (fun j' p' hp' => ?_) x y hy)
        have : j' < vs.size := by rw [w2]; exact (List.getElem?_eq_some_iff.1 hp').1
        rw [Array.getElem?_eq_getElem this]
        exact w3 j' p' _ hp' (Array.getElem?_eq_getElem this)
    · cases l with
      | succ l => simp [getB] at h1
      | zero => cases l' with
        | succ l' => simp [getB] at h3
        | zero =>
          simp only [getB, List.getElem?_map] at h1 h3
          obtain ⟨r', hr', rfl⟩ := Option.map_eq_some_iff.1 h1
          obtain ⟨r2, hr2, rfl⟩ := Option.map_eq_some_iff.1 h3
          obtain ⟨j, hj⟩ := gget i r' hr'
          obtain ⟨j', hj'⟩ := gget i' r2 hr2
          obtain ⟨_, c1', _, _, q2', _⟩ := hbs i j hj
          obtain ⟨_, c2', _, _, q2'', _⟩ := hbs i' j' hj'
          simp only [giveM, hj, hj', Option.bind_some] at h5 h6
          obtain ⟨_, rfl⟩ := hinv1.inj 0 j _ 0 j' _ v v' k q2' rfl q2'' rfl h5 h6 h7 h8
          exact ⟨rfl, (List.getElem?_inj (List.getElem?_eq_some_iff.1 hj).1 hnd).1 (hj.trans hj'.symm)⟩
    · obtain ⟨i', cs', v', w1, w2, w3, w4⟩ : ∃ i cs v', i ∈ bs ∧ top[i]? = some (.box cs) ∧ m.ρ 0 i = some v' ∧ blkOf v' = some k := by
        cases l with
        | succ l => simp [getB] at h1
        | zero => exact givOf k ⟨i, b, v, h1, h2, h3, h4⟩
      exact hinv1.own 0 i' _ v' k w2 rfl w3 w4
  -- the frame, while it is under way
  let V0 : Nat → Prop := fun k => U1 k ∧ ¬ Mine (giveM m1 bs) (G.map RowB.blk) k
  have notGiv : ∀ l i b v k, getB top1 H l i = some b → b.live = true → m1.ρ l i = some v → blkOf v = some k → getB top H l i = some b ∧ ¬ Mine (giveM m1 bs) (G.map RowB.blk) k := fun l i b v k h1 h2 h3 h4 => by
    have hb : getB top H l i = some b ∧ (l = 0 → i ∉ bs) := by
      cases l with
      | succ l => exact ⟨h1, fun h => by cases h⟩
      | zero =>
        simp only [getB] at h1 ⊢
        by_cases hi : i ∈ bs
        · have hlt : i < top.length := by rw [← hl1]; exact (List.getElem?_eq_some_iff.1 h1).1
          rw [hd1 i hi hlt] at h1; cases h1; cases h2
        · rw [hs1 i hi] at h1; exact ⟨h1, fun _ => hi⟩
    refine ⟨hb.1, fun hm => ?_⟩
    obtain ⟨i', cs', v', w1, w2, w3, w4⟩ := givOf k hm
    obtain ⟨rfl, rfl⟩ := hinv1.inj l i b 0 i' _ v v' k hb.1 h2 w2 rfl h3 w3 h4 w4
    exact hb.2 rfl w1
  have mineTop : ∀ k, Mine m1 top1 k → Mine m1 top k := fun k ⟨i, b, v, h1, h2, h3, h4⟩ => ⟨i, b, v, (notGiv 0 i b v k h1 h2 h3 h4).1, h2, h3, h4⟩
  have givMine : ∀ k, Mine (giveM m1 bs) (G.map RowB.blk) k → Mine m1 top k := fun k hm => by
    obtain ⟨i', cs', v', w1, w2, w3, w4⟩ := givOf k hm
    exact ⟨i', _, v', w2, rfl, w3, w4⟩
  have quiet0 : ∀ k o, Quiet m1 top Vc k o → Quiet m1 top1 Vc k o ∧ V0 k := fun k o q => ⟨⟨q.heap, fun hm => q.mine (mineTop k hm), q.out, q.used⟩, q.used, fun hm => q.mine (givMine k hm)⟩
  have gen1 : ∀ (i : Nat) Y st, top1[i]? = some (.gen Y st) → top[i]? = some (.gen Y st) := fun i Y st hi => by
    by_cases hb : i ∈ bs
    · have hlt : i < top.length := by rw [← hl1]; exact (List.getElem?_eq_some_iff.1 hi).1
      rw [hd1 i hb hlt] at hi; cases hi
    · rwa [hs1 i hb] at hi
  have held0 : Held H m0 a' L V0 m1 tm top1 (.loop (recL fn a ps asg body dft .ready none)) := by
    have hinvT : Inv m1 top1 H := ⟨fun l i b hb => by
        cases hlv : b.live with
        | false => cases b <;> simp [Blk.live] at hlv <;> exact True.intro
        | true =>
          cases hρ : m1.ρ l i with
          | none => cases b <;> first | trivial | (intro v h; rw [hρ] at h; cases h)
          | some v =>
            have hb' : getB top H l i = some b := by
              cases l with
              | succ l => exact hb
              | zero =>
                simp only [getB] at hb ⊢
                by_cases hi : i ∈ bs
                · have hlt : i < top.length := by rw [← hl1]; exact (List.getElem?_eq_some_iff.1 hb).1
                  rw [hd1 i hi hlt] at hb; cases hb; cases hlv
                · rwa [hs1 i hi] at hb
            exact hinv1.blk l i b hb', fun l i b l' i' b' v v' k h1 h2 h3 h4 h5 h6 h7 h8 => hinv1.inj l i b l' i' b' v v' k (notGiv l i b v k h1 h2 h5 h7).1 h2 (notGiv l' i' b' v' k h3 h4 h6 h8).1 h4 h5 h6 h7 h8, fun l i b v k h1 h2 h3 h4 => hinv1.own l i b v k (notGiv l i b v k h1 h2 h3 h4).1 h2 h3 h4, hinv1.lt⟩
    have t := st1.since
    have hlate : m0.w.heap.size ≤ m.w.heap.size := st.since.size
    refine ⟨⟨hinvT, st1.size, st1.rel, rfl, fun j hj => st1.free j (by rwa [← hl1]), ⟨t.os, t.tape, t.output, t.size, t.heap, t.up, t.U, fun k hk => t.fresh k (mineTop k hk)⟩, st1.tsz, st1.prot⟩, ⟨Vc, ⟨fun i j Y s Y' s' h1 h2 => calm1.one i j Y s Y' s' (gen1 i Y s h1) (gen1 j Y' s' h2), calm1.used, calm1.more, calm1.old, fun k hk hm => calm1.mine k hk (mineTop k hm), fun i Y s hi => calm1.gen i Y s (gen1 i Y s hi), fun k o hz => (quiet0 k o (calm1.z k o hz)).1, calm1.nd, calm1.late, fun d hd => ?_⟩, fun k hk => ⟨calm1.used k hk, fun hm => calm1.mine k hk (givMine k hm)⟩, (quiet0 L _ q1).1⟩, fun k o hz => ⟨?_, (quiet0 k o (calm1.z k o hz)).2⟩, fun d hd D e => ⟨hdL d hd D e, ?_⟩, fun l i b v k h1 h2 h3 h4 => ?_, (quiet0 L _ q1).2, fun k hk hu => ?_, Nat.le_trans hlate hL⟩
    · obtain ⟨D, e1, e2⟩ := calm1.d d hd
      exact ⟨D, e1, (quiet0 D _ e2).1⟩
    · have := (Array.getElem?_eq_some_iff.1 (calm.z k o hz).heap).1
      omega
    · obtain ⟨D', e1, e2⟩ := calm1.d d hd
      rw [e1] at e; cases e
      exact (quiet0 _ _ e2).2
    · obtain ⟨w1, w2⟩ := notGiv l i b v k h1 h2 h3 h4
      refine ⟨⟨hinv1.own l i b v k w1 h2 h3 h4, w2⟩, fun e => ?_⟩
      have := st.inv.lt k (st.inv.own l i b v k w1 h2 h3 h4)
      omega
    · by_cases hm : Mine (giveM m1 bs) (G.map RowB.blk) k
      · rcases st.since.fresh k (mine_other (m := m) (m' := m1) rfl (givMine k hm)) with h1 | h1
        · exact absurd hk (Nat.not_lt.2 h1)
        · exact .inr (.inl h1)
      · exact .inl ⟨hu, hm⟩
  have heldS := held0.ref hr0
  -- whom it yields to
  let Y : Yield := ⟨C.P, xs, fun st V w U => ∃ ρ : Nat → Nat → Option Value, match st with
    | some k => I k ∧ Held H m0 a' L V ⟨w, ρ, U⟩ tmS (S k) (.loop (recL fn a' ps asg body dft .ready none))
    | none => ∃ e c tmc topc, jumpC e = some c ∧ K e tmc topc ∧ Held H m0 a' L V ⟨w, ρ, U⟩ tmc topc (.loop (recL fn a' ps asg body dft .done (some c)))⟩
  have hY : YieldOk Y (.func (.yield L) #[] #[]) := by
    refine ⟨fun st V w U w' U' hab hVU hU hJ => ?_, L, rfl, fun k x V U w vs hx hJ hVU hU hl hry => ?_⟩
    · obtain ⟨ρ, hJ⟩ := hJ
      refine ⟨ρ, ?_⟩
      cases st with
      | some k => exact ⟨hJ.1, Held.abide (m := ⟨w, ρ, U⟩) hJ.2 hab hVU⟩
      | none =>
        obtain ⟨e, c, tmc, topc, h1, h2, h3⟩ := hJ
        exact ⟨e, c, tmc, topc, h1, h2, Held.abide (m := ⟨w, ρ, U⟩) h3 hab hVU⟩
    · obtain ⟨ρ, hJ⟩ := hJ
      have hr := round_spec hz hA hB (m := ⟨w, ρ, U⟩) hJ.2 (K := K) (Nx := I (k + 1)) (W := appL ps.toList (appL (dstsC asg) (dstsC body))) (fun d hd => mem_appL.2 (.inl hd)) (fun d hd => mem_appL.2 (.inr (mem_appL.2 (.inl hd)))) (fun d hd => mem_appL.2 (.inr (mem_appL.2 (.inr hd)))) (hrounds k x hx hJ.1) hVU hl hry
      refine YieldAt.mono hr ?_
      rintro e w' ⟨b, U', V', rfl, hst, ρ', h⟩
      refine ⟨b, U', V', rfl, hst, ρ', ?_⟩
      rcases h with ⟨rfl, h⟩ | ⟨rfl, h⟩
      · exact h
      · exact h
  unfold IterEq at hIter
  have hcall := hIter Y V0 (giveM m1 bs) cv (.func (.yield L) #[] #[]) rfl rfl hY hinvG (fun i hi => by simp [giveM, List.getElem?_eq_none (show bs.length ≤ i by omega)]) (((hargs m1 bs (by simp)).1).trans e2) (fun j p v hp hv => (hargs m1 bs (by simp)).2 j p v hp (fun p0 h0 => (r2 j p0 v h0 hv).keep hK01)) (fun k hk => hk.1) (fun k hk => hk.2) ⟨_, hI0, heldS⟩
  refine ⟨L, mk, W1, { target := .fn (.func f) cv, args := #[.func (.yield L) #[] #[]] }, W1, f, #[.func (.yield L) #[] #[]] ++ cv, W1, hent, ?_, fun _ _ => trivial, ?_, (fun h => by cases h), ?_⟩
  · simp only [resolve, hve]
    simp [go_sem]
  · exact run_callFunc hC hpl _ _
  refine calls_in (hcall.mono ?_)
  rintro e w' ⟨rv, U', V', st', rfl, _, _, _, _, _, _, _, _, _, _, ⟨ρ, hJ⟩, hst⟩
  rcases hst with rfl | rfl
  · obtain ⟨hI, hJ⟩ : I xs.length ∧ Held H m0 a' L V' ⟨w', ρ, U'⟩ tmS (S xs.length) (.loop (recL fn a' ps asg body dft .ready none)) := hJ
    obtain ⟨V2, _, _, q2⟩ := hJ.calm
    refine ⟨none, _, run_endLoop q2.heap (by simp [recL]), ?_⟩
    have hJ' := hJ.obj (.loop { recL fn a' ps asg body dft .ready none with state := .exhausted })
    obtain ⟨V3, c3, _, _⟩ := hJ'.calm
    exact ⟨rfl, tmS, S xs.length, _, rfl, hend hI, hJ'.st, V3, c3⟩
  · obtain ⟨e, c, tmc, topc, h1, h2, hJ⟩ := hJ
    obtain ⟨V2, _, _, q2⟩ := hJ.calm
    refine ⟨some c, _, run_endLoop q2.heap (by simp [recL]), ?_⟩
    have hJ' := hJ.obj (.loop { recL fn a' ps asg body dft .done (some c) with state := .exhausted })
    obtain ⟨V3, c3, _, _⟩ := hJ'.calm
    have fin : okE e = true → Post H m0 K e a' (w'.putObj L (.loop { recL fn a' ps asg body dft .done (some c) with state := .exhausted })) := fun hok => ⟨hok, tmc, topc, _, rfl, h2, hJ'.st, V3, c3⟩
    cases e with
    | ret => cases h1; exact wpIn_ret (fin rfl)
    | exit id => cases h1; exact wpIn_exit (fin rfl)
    | goto l => cases h1; exact wpIn_goto (fin rfl)
    | _ => cases h1
theorem rangeV_of {C : Cx} {f : Nat} {G : List RowB} {args : List PV} {ps W : List Nat} {asg body : (Exit → List PV → List Blk → Prop) → List PV → List Blk → Prop} {K : Exit → List PV → List Blk → Prop} {tm : List PV} {top : List Blk}
    (xs : List (List YV)) (tmS : List PV) (S : Nat → List Blk) (I : Nat → Prop) (s : List Nat) (h1 : IterEq C f G args xs) (h0 : I 0) (h2 : Ref s tm top tmS (S 0))
    (h3 : ∀ k x, xs[k]? = some x → I k → putPs ps x tmS fun tmr => asg (fun e tm1 top1 => match e with
      | .normal => body (fun e tm2 top2 => match e with
          | .normal => maskK W tm2 fun tm3 => I (k + 1) ∧ ∃ s, Ref s tm3 top2 tmS (S (k + 1))
          | e => maskK W tm2 fun tm3 => K e tm3 top2) tm1 top1
      | _ => False) tmr (S k)) (h4 : I xs.length → K .normal tmS (S xs.length)) : RangeV C f G args ps W asg body K tm top := by
  unfold RangeV
  exact ⟨xs, tmS, S, I, h1, ⟨h0, s, h2⟩, h3, h4⟩
end Go.Proofs.Ve

/- Code and calls: what the value machine says of them is so. -/
set_option linter.all false
namespace Go.Proofs.Ve
open Go

section
variable {F : Fence} {n : Nat} {P : Program} {b : Frame} {a : Act} {k : List Item} {cs : List Frame} {w : World} {Q : Exit → Act → World → Prop}
theorem stepR_scope {c : Code} : step P (lone (b.atR a (.code (.scope c) :: k)) cs w) = .next (lone (b.atR a (.code c :: .inScope c :: k)) cs w) :=
  step_lone_go (by simp [stepG, stepG.exec, Frame.atR])
theorem stepR_inScope {c : Code} : step P (lone (b.atR a (.inScope c :: k)) cs w) = .next (lone (b.atR a k) cs w) :=
  step_lone_go (by simp [stepG, stepG.exec, Frame.atR])
theorem wpIn_scope_straight {c : Code} (h : c.wpIn F n P (Exit.noGoto Q) a w) : (Code.scope c).wpIn F n P Q a w := by
  intro b k cs hro hb hr
  have h0 : (lone (b.atR a (.code (.scope c) :: k)) cs w).fenced P F := fenced_calm hb hr rfl
  obtain ⟨e, a₁, w₁, hq, harr⟩ := h b (.inScope c :: k) cs hro hb hr
  cases e with
  | normal => exact ⟨.normal, a₁, w₁, hq, .head h0 stepR_scope (StepsIn.trans harr (.one (fenced_calm hb hr rfl) stepR_inScope))⟩
  | exit id =>
    have hx : exitTo id (.inScope c :: k) = exitTo id k := by simp [exitTo]
    exact ⟨.exit id, a₁, w₁, hq, fun k' hk => .head h0 stepR_scope (harr.1 k' (by rw [hx]; exact hk)), fun hr' hk => let ⟨k₁, h1, h2⟩ := harr.2 hr' (by rw [hx]; exact hk); ⟨k₁, h1, .head h0 stepR_scope h2⟩⟩
  | goto l => exact hq.elim
  | ret => exact ⟨_, a₁, w₁, hq, .of_steps (.one h0 stepR_scope) harr⟩
  | panic ch => exact ⟨_, a₁, w₁, hq, .of_steps (.one h0 stepR_scope) harr⟩
  | outgrown => exact ⟨_, a₁, w₁, hq, .of_steps (.one h0 stepR_scope) harr⟩
end

theorem wpC_sound {C : Cx} (hC : C.Ok) {H : List (List Blk)} {mo : List (Nat × Tr)} (c : Code) : drawsM C.give C.frz C.fcl mo c = true → Sound C H mo c := by
  induction c with
  | skip => intro _ r m0 K tm top m a _ _ _ h hs; exact wpIn_skip ⟨rfl, tm, top, m, rfl, h, hs⟩
  | label l => intro _ r m0 K tm top m a _ _ _ h hs; exact wpIn_label ⟨rfl, tm, top, m, rfl, h, hs⟩
  | exit id => intro _ r m0 K tm top m a _ _ _ h hs; exact wpIn_exit ⟨rfl, tm, top, m, rfl, h, hs⟩
  | ret => intro _ r m0 K tm top m a _ _ _ h hs; exact wpIn_ret ⟨rfl, tm, top, m, rfl, h, hs⟩
  | goto l => intro _ r m0 K tm top m a _ _ _ h hs; exact wpIn_goto ⟨rfl, tm, top, m, rfl, h, hs⟩
  | scope x ihx =>
    intro hd r m0 K tm top m a hr hW hF h hs
    refine wpIn_scope_straight (wpIn_mono (ihx hd r m0 _ tm top m a hr hW hF h hs) ?_)
    rintro e a' w ⟨hok, tm', top', m', rfl, hk, hs'⟩
    cases e with
    | goto l => exact hk
    | _ => exact ⟨hok, tm', top', m', rfl, hk, hs'⟩
  | region id ops draw =>
    intro hd r m0 K tm top m a hr hW hF h hs
    have hW' : ∀ o ∈ ops.toList, ∀ d, o.dst = some d → m0.W d := fun o ho d hd => hW d (mem_opDsts.2 ⟨o, ho, hd⟩)
    cases draw with
    | false =>
      refine wpIn_region ?_
      have := opsY_spec hC (r := r) (m0 := m0) (Q := Post H m0 K) (K := fun tm' top' => K .normal tm' top') (fun m a tm top hk hs => ⟨rfl, tm, top, m, rfl, hk, hs⟩) hW' hF ops.toList (List.range ops.size) [] tm top m a (by simp) (fun k i hi => by
        have : k < ops.size := by have := (List.getElem?_eq_some_iff.1 hi).1; simpa using this
        simp [this] at hi
        subst hi; rfl) h hs (fun d hd => by cases hd)
      simpa using this
    | true =>
      simp only [drawsM, Bool.not_true, Bool.false_or, Bool.and_eq_true] at hd
      obtain ⟨hnd, hd⟩ := hd
      rcases moK_spec (show moK mo id (fun t => trK C H ops.toList t (fun tm' top' => K .normal tm' top') tm top) (opsK C H (empsF C.frz ops.toList) ops.toList ops.toList tm top fun tm' top' => K .normal tm' top') from h) with ⟨t, ht, h⟩ | ⟨ht, h⟩
      · rw [ht] at hd
        have := tr_spec hC (r := r) (ops := ops.toList) (id := id) (m0 := m0) (K := fun tm' top' => K .normal tm' top') (Q := Post H m0 K) hnd hd hW' hF (fun m a tm top hk hs => ⟨rfl, tm, top, m, rfl, hk, hs⟩) h hs
        simpa using this
      · rw [ht] at hd
        have := draw_spec hC (r := r) (ops := ops.toList) (id := id) (m0 := m0) (K := fun tm' top' => K .normal tm' top') (Q := Post H m0 K) hnd (by simpa using hd) hW' (fun m a tm top hk hs => ⟨rfl, tm, top, m, rfl, hk, hs⟩) h hs
        simpa using this
  | seq x y ihx ihy =>
    intro hd r m0 K tm top m a hr hW hF h hs
    simp only [drawsM, Bool.and_eq_true] at hd
    refine wpIn_seq (wpIn_mono (ihx hd.1 r m0 _ tm top m a hr (fun d hd => hW d (mem_appL.2 (.inl hd))) hF h hs) ?_)
    rintro e a' w ⟨hok, tm', top', m', rfl, hk, hs'⟩
    cases e with
    | normal => exact ihy hd.2 r m0 K tm' top' m' a' hr (fun d hd => hW d (mem_appL.2 (.inr hd))) hF hk hs'
    | _ => exact ⟨hok, tm', top', m', rfl, hk, hs'⟩
  | cond c x y ihx ihy =>
    intro hd r m0 K tm top m a hr hW hF h hs
    simp only [drawsM, Bool.and_eq_true] at hd
    have hWx : ∀ d ∈ dstsC x, m0.W d := fun d hd => hW d (mem_appL.2 (.inl hd))
    have hWy : ∀ d ∈ dstsC y, m0.W d := fun d hd => hW d (mem_appL.2 (.inr hd))
    obtain ⟨p, hp, h⟩ := evK_ev h
    have hv := eval_of hs.1 hp
    generalize hve : a.eval c = v at hv
    split at h
    · cases hv
      exact wpIn_cond_true hve (ihx hd.1 r m0 K tm top m a hr hWx hF h hs)
    · cases hv
      exact wpIn_cond_false hve (ihy hd.2 r m0 K tm top m a hr hWy hF h hs)
    · cases hv
      exact wpIn_cond_split hve (fun _ => ihx hd.1 r m0 K tm top m a hr hWx hF h.1 hs) (fun _ => ihy hd.2 r m0 K tm top m a hr hWy hF h.2 hs)
    · cases hv with
      | d _ _ hx =>
        cases hx
        exact wpIn_cond_split hve (fun e => ihx hd.1 r m0 K tm top m a hr hWx hF (h.1 e) hs) (fun e => ihy hd.2 r m0 K tm top m a hr hWy hF (h.2 e) hs)
    · exact h.elim
  | block id x ihx =>
    intro hd r m0 K tm top m a hr hW hF h hs
    refine wpIn_block (wpIn_mono (ihx hd r m0 _ tm top m a hr hW hF h hs) ?_)
    rintro e a' w ⟨hok, tm', top', m', rfl, hk, hs'⟩
    cases e with
    | exit id' =>
      simp only [Exit.inBlock]
      dsimp only at hk
      cases hb : Nat.beq id' id with
      | true =>
        rw [hb] at hk
        rw [if_pos (Nat.eq_of_beq_eq_true hb)]
        exact ⟨rfl, tm', top', m', rfl, hk, hs'⟩
      | false =>
        rw [hb] at hk
        rw [if_neg (fun e => by subst e; simp at hb)]
        exact ⟨rfl, tm', top', m', rfl, hk, hs'⟩
    | _ => exact ⟨hok, tm', top', m', rfl, hk, hs'⟩
  | loop x ihx =>
    intro hd r m0 K tm top m a hr hW hF h hs
    change LoopV (wpM C H mo x) K tm top at h
    unfold LoopV at h
    obtain ⟨ι, S, I, μ, ⟨i0, s0, hI0, hr0⟩, hstep⟩ := h
    have key : ∀ (n : Nat) (i : ι) (m : M) (a : Act), μ i < n → I i → Full H m0 m a (S i).tm (S i).top → Code.roundsIn (FW r) 0 C.P x (Post H m0 K) n a m.w := by
      intro n
      induction n with
      | zero => intro i m a h; omega
      | succ n ih =>
        intro i m a hμ hI hs
        rw [roundsIn_succ]
        refine wpIn_mono (ihx hd r m0 _ _ _ m a hr hW hF (hstep i hI) hs) ?_
        rintro e a' w ⟨hok, tm', top', m', rfl, hk, hs'⟩
        cases e with
        | normal =>
          obtain ⟨i', s', hI', hlt, hr'⟩ := hk
          exact ih i' (m'.ren s' top'.length) a' (by omega) hI' (hs'.ref hr')
        | _ => exact ⟨hok, tm', top', m', rfl, hk, hs'⟩
    exact wpIn_loop_rounds (μ i0 + 1) (key _ i0 (m.ren s0 top.length) a (Nat.lt_succ_self _) hI0 (hs.ref hr0))
  | rangeFunc g ps x y ihx ihy =>
    intro hd r m0 K tm top m a hr hW hF h hs
    simp only [drawsM, Bool.and_eq_true, Bool.not_eq_true'] at hd
    exact range_spec hC hd.1 (ihx hd.2.1) (ihy hd.2.2) hr h hs
  | _ => intro _ r m0 K tm top m a _ _ _ h _; exact h.elim

/-! ### what is handed back -/
theorem load_as {P : Program} {t : TypeId} {v u : Value} {w : World} (h : (Instr.loadAt t v).run P w = .ok u w) : ((asAddr v) >>= loadVar t).run P w = .ok u w := by
  cases v with
  | pointer a => cases a <;> simpa [Instr.loadAt, Instr.sureAddr, asAddr] using h
  | _ => simp [Instr.loadAt, Instr.sureAddr, stuck] at h

def resF (tmps : Array Value) : ResultVar → Sem Value
  | .tmp t => pure (tmps.getD t undef)
  | .cell a t => do loadVar t (← asAddr (tmps.getD a undef))
theorem resK_spec {C : Cx} (hC : C.Ok) {H : List (List Blk)} {tm : List PV} {top : List Blk} : ∀ {rvs : List ResultVar} {K : List PV → Prop}, resK C H tm top rvs K →
    ∃ ps, K ps ∧ ∀ m0 m a, St H m0 m a tm top → ∃ vs : List Value, ps.length = vs.length ∧ (rvs.mapM (resF a.tmps)).run C.P m.w = .ok vs m.w ∧ ∀ (j : Nat) p v, ps[j]? = some p → vs[j]? = some v → RP m p v
  | [], K, h => ⟨[], h, fun m0 m a hs => ⟨[], rfl, by simp, fun j p v hp => by simp at hp⟩⟩
  | .tmp t :: rs, K, h => by
    obtain ⟨p, hp, h⟩ := getK_spec.1 h
    obtain ⟨ps, hk, hh⟩ := resK_spec hC h
    refine ⟨p :: ps, hk, fun m0 m a hs => ?_⟩
    obtain ⟨vs, hl, hrun, hr⟩ := hh m0 m a hs
    have h1 := hs.evR [.tmp t] t p (List.mem_singleton.2 rfl) hp
    refine ⟨a.tmps.getD t undef :: vs, by simp [hl], ?_, fun j q v hq hv => ?_⟩
    · simp only [List.mapM_cons, resF, Sem.run_bind, Sem.run_pure, Result.andThen_ok, hrun]
    · cases j with
      | zero => simp only [List.getElem?_cons_zero, Option.some.injEq] at hq hv; subst hq; subst hv; exact h1
      | succ j => exact hr j q v (by simpa using hq) (by simpa using hv)
  | .cell x t :: rs, K, h => by
    obtain ⟨p, hp, h⟩ := getK_spec.1 h
    obtain ⟨q0, h, hq0⟩ := loadK_spec hC h
    obtain ⟨ps, hk, hh⟩ := resK_spec hC h
    refine ⟨q0 :: ps, hk, fun m0 m a hs => ?_⟩
    obtain ⟨vs, hl, hrun, hr⟩ := hh m0 m a hs
    have h1 := hs.evR [.tmp x] x p (List.mem_singleton.2 rfl) hp
    obtain ⟨u, hu, hru⟩ := hq0 m _ hs.inv h1
    have hu' : (resF a.tmps (.cell x t)).run C.P m.w = .ok u m.w := load_as hu
    refine ⟨u :: vs, by simp [hl], ?_, fun j q v hq hv => ?_⟩
    · simp only [List.mapM_cons, Sem.run_bind, Sem.run_pure, hu', Result.andThen_ok, hrun]
    · cases j with
      | zero => simp only [List.getElem?_cons_zero, Option.some.injEq] at hq hv; subst hq; subst hv; exact hru
      | succ j => exact hr j q v (by simpa using hq) (by simpa using hv)

def oneV : List Value → Value
  | [v] => v
  | vs => .tuple vs.toArray
theorem results_run {P : Program} {fn : Func} {tmps : Array Value} {w : World} {vs : List Value} (h : (fn.results.toList.mapM (resF tmps)).run P w = .ok vs w) :
    (results fn tmps).run P w = .ok (oneV vs) w := by
  have h1 : (fn.results.mapM (resF tmps)).run P w = .ok vs.toArray w := by
    rw [← Array.toArray_toList (xs := fn.results), List.mapM_toArray]
    simp [h]
  have h2 : results fn tmps = (do let vs ← fn.results.mapM (resF tmps); pure (if h : vs.size = 1 then vs[0] else .tuple vs)) := by
    unfold results
    congr 2
  rw [h2]
  simp only [Sem.run_bind, h1, Result.andThen_ok, Sem.run_pure]
  match vs with
  | [] => simp [oneV]
  | [v] => simp [oneV]
  | v :: u :: vs => simp [oneV]

theorem padK_spec : ∀ {args : List PV} {n : Nat} {K : List PV → Prop}, padK args n K → args.length ≤ n ∧ K (args ++ List.replicate (n - args.length) .any)
  | [], 0, K, h => ⟨Nat.le_refl _, h⟩
  | [], n + 1, K, h => by
    have := (padK_spec (args := []) (n := n) h).2
    refine ⟨Nat.zero_le _, ?_⟩
    simpa [List.replicate_succ] using this
  | p :: ps, 0, K, h => h.elim
  | p :: ps, n + 1, K, h => by
    obtain ⟨h1, h2⟩ := padK_spec (args := ps) (n := n) h
    refine ⟨by simp; omega, ?_⟩
    simpa using h2

theorem refs_dpv {s : List Nat} {n nt : Nat} : ∀ {cs : List PV} {ds : List DV}, dvsK cs (fun xs => xs = ds) → refT s n nt cs (dpv ds)
  | [], [], _ => trivial
  | [], _ :: _, h => by cases h
  | c :: cs, ds, h => by
    rw [dvsK_cons] at h
    have key : ∀ x, refP s n nt c (.d x) → dvsK cs (fun xs => x :: xs = ds) → refT s n nt (c :: cs) (dpv ds) := fun x hx h => by
      cases ds with
      | nil =>
        exfalso
        obtain ⟨ys, h, _⟩ := dvsK_spec h
        cases h
      | cons y ds =>
        obtain ⟨ys, h', _⟩ := dvsK_spec h
        cases h'
        have h2 : dvsK cs (fun xs => xs = ds) := by
          have : ∀ {cs : List PV} {K K' : List DV → Prop}, (∀ xs, K xs → K' xs) → dvsK cs K → dvsK cs K' := by
            intro cs
            induction cs with
            | nil => intro K K' hk h; exact hk _ h
            | cons c cs ih =>
              intro K K' hk h
              rw [dvsK_cons] at h ⊢
              unfold dvK at h ⊢
              split at h <;> first | exact ih (fun xs hx => hk _ hx) h | exact h.elim
          exact this (fun xs hx => by cases hx; rfl) h
        exact ⟨hx, refs_dpv h2⟩
    unfold dvK at h
    split at h
    · exact key _ rfl h
    · exact key _ rfl h
    · exact key _ rfl h
    · exact key _ rfl h
    · exact h.elim
theorem refN_B {top : List Blk} {s : List Nat} {n : Nat} : ∀ {js : List Nat} {N : List RowB}, refN top js N → refB s n top js (N.map RowB.blk)
  | [], [], _ => trivial
  | [], _ :: _, h => h.elim
  | _ :: _, [], h => h.elim
  | j :: js, r :: rs, h => by
    refine ⟨?_, refN_B h.2⟩
    have h1 : refRow top[j]? r := h.1
    unfold refRow at h1
    split at h1
    · rename_i e' sz' xs' hb
      cases hz : Nat.beq sz' 0 with
      | true => rw [hz] at h1; exact h1.elim
      | false =>
        rw [hz] at h1
        obtain ⟨rfl, rfl, rfl⟩ := h1
        unfold RowB.blk
        rw [hz]
        show refOne s n top j (.row r.e r.sz r.xs)
        simp only [refOne, hb]
        exact ⟨trivial, trivial, trivial⟩
    · rename_i hb
      obtain ⟨h1, h2⟩ := h1
      have hz : Nat.beq r.sz 0 = false := by
        cases hz : Nat.beq r.sz 0 with
        | false => rfl
        | true => have := Nat.eq_of_beq_eq_true hz; rw [this] at h2; cases h2
      unfold RowB.blk
      rw [hz]
      show refOne s n top j (.row r.e r.sz r.xs)
      simp only [refOne, hb]
      exact ⟨h1, h2⟩
    · rename_i cs' hb
      split at h1
      · rename_i hz
        unfold RowB.blk
        rw [hz]
        show refOne s n top j (.box (dpv (headD r.xs)))
        simp only [refOne, hb]
        exact refs_dpv h1
      · exact h1.elim
    · exact h1.elim


theorem ret_spec {C : Cx} (hC : C.Ok) {H : List (List Blk)} {fn : Func} {r : PV} {N : List RowB} {m0 : M0} {tm : List PV} {top : List Blk} {m : M} {a : Act} (hs : St H m0 m a tm top)
    (h : resK C H tm top fn.results.toList fun ps => oneK ps fun p => ∃ s, nodupB s = true ∧ refP s s.length top.length p r ∧ refN top s N) :
    ∃ v, (results fn a.tmps).run C.P m.w = .ok v m.w ∧ ∃ m2 : M, m2.w = m.w ∧ (∀ i, N.length ≤ i → m2.ρ 0 i = none) ∧ Since m0 m2 (N.map RowB.blk) ∧ Inv m2 (N.map RowB.blk) H ∧ RP m2 r v := by
  obtain ⟨ps, hk, hh⟩ := resK_spec hC h
  obtain ⟨vs, hl, hrun, hr⟩ := hh m0 m a hs
  refine ⟨_, results_run hrun, ?_⟩
  have fin : ∀ p v, RP m p v → (∃ s, nodupB s = true ∧ refP s s.length top.length p r ∧ refN top s N) → ∃ m2 : M, m2.w = m.w ∧ (∀ i, N.length ≤ i → m2.ρ 0 i = none) ∧ Since m0 m2 (N.map RowB.blk) ∧ Inv m2 (N.map RowB.blk) H ∧ RP m2 r v := by
    rintro p v hp ⟨s, h1, h2, h3⟩
    have hB := refN_B (s := s) (n := s.length) h3
    exact ⟨m.ren s top.length, rfl, ren_free (by simpa using (refB_get hB).1), since_ren hB hs.since, inv_ren hs.inv hs.free h1 hB, rp_ref hs.free h2 hp⟩
  unfold oneK at hk
  split at hk
  · rename_i p
    match vs, hl, hr with
    | [v], _, hr => exact fin p v (hr 0 p v rfl rfl) hk
  · rename_i hne
    refine fin (.tuple ps) _ ?_ hk
    have : oneV vs = Value.tuple vs.toArray := by
      clear hrun hr hh
      match vs, hl with
      | [], _ => rfl
      | [v], hl => exact absurd (show ps = [ps[0]'(by simp at hl; omega)] by match ps, hl with | [p], _ => rfl) (hne _)
      | v :: u :: vs, _ => rfl
    rw [this]
    exact .tuple _ _ (by simp [hl]) (fun j p v hp hv => hr j p v hp (by simpa using hv))

/-- out of a function, past the marks of its ranges -/
theorem leaves_spec {P : Program} {fn : Func} {H : List (List Blk)} {m0 : M0} {a : Act} {tm : List PV} {top : List Blk} {V : Nat → Prop} {R : Ending → World → Prop} (hz : ∀ k, m0.Z k = none) (hrnd : m0.rnd = false) (hH : ∀ l i b v k, getB top H (l + 1) i = some b → b.live = true → m0.ρ (l + 1) i = some v → blkOf v = some k → k < m0.w.heap.size)
    (fin : ∀ m, St H { m0 with ds := a.defers } m a tm top → (∃ ds, Calm H m0 m ds top V) → ∃ v, (results fn a.tmps).run P m.w = .ok v m.w ∧ R (.returned v) m.w) :
    ∀ (ds : List Deferred) (m : M), St H { m0 with ds := a.defers } m a tm top → Calm H m0 m ds top V → LeavesInM Fence.wide 0 P fn a.tmps R ds .returning m.w
  | [], m, hs, hc => fin m hs ⟨_, hc⟩
  | d :: ds, m, hs, hc => by
    obtain ⟨D, hd, q⟩ := hc.d d (List.mem_cons_self ..)
    have hlate := hc.late hrnd d (List.mem_cons_self ..) D hd
    have hnd := List.nodup_cons.1 hc.nd
    have hc' : Calm H m0 m ds top V := ⟨hc.one, hc.used, hc.more, hc.old, hc.mine, hc.gen, hc.z, hnd.2, fun h d hd => hc.late h d (List.mem_cons_of_mem _ hd), fun d hd => hc.d d (List.mem_cons_of_mem _ hd)⟩
    obtain ⟨r1, r2, _⟩ := full_obj (m0 := { m0 with ds := a.defers }) hs (ds := ds) ⟨hc'.one, hc'.used, hc'.more, hc'.old, hc'.mine, hc'.gen, hc'.z, hc'.nd, hc'.late, hc'.d⟩ q (fun l i b v e1 e2 e3 e4 => by
      cases l with
      | zero => exact q.mine ⟨i, b, v, e1, e2, e3, e4⟩
      | succ l =>
        have h9 : m0.ρ (l + 1) i = some v := by rw [← hs.since.up]; exact e3
        have := hH l i b v D e1 e2 h9 e4
        omega) hlate (fun k o hk => by rw [show (M0.Z { m0 with ds := a.defers }) k = m0.Z k from rfl, hz] at hk; cases hk) (fun d' hd' e => hnd.1 (by rw [hd, ← e]; exact hd')) (.deferred none)
    subst hd
    refine ⟨by simp, .inl ⟨D, _, rfl, run_takeDeferred q.heap, ?_⟩⟩
    exact leaves_spec hz hrnd hH fin ds ⟨m.w.putObj D (.deferred none), m.ρ, m.U⟩ r1 ⟨r2.one, r2.used, r2.more, r2.old, r2.mine, r2.gen, r2.z, r2.nd, r2.late, r2.d⟩

theorem good_draws {C : Cx} (hC : C.Ok) {f : Nat} (hg : C.good f = true) {fn : Func} {c : Code} (hf : C.P.funcs[f]? = some fn) (hb : fn.body = some c) : drawsOk C.give c = true := by
  have := hC.draws
  unfold goodB at this
  rw [List.all_eq_true] at this
  simp only [Cx.good, Bool.and_eq_true, Bool.not_eq_true'] at hg
  have := this f (List.mem_range.2 (by simpa [Nat.blt_eq] using hg.1))
  rw [hg.2, Bool.false_or, hf] at this
  simpa [hb] using this

/-- A body, and what its end is to say. -/
theorem run_spec {C : Cx} (hC : C.Ok) {H : List (List Blk)} {f : Nat} {fn : Func} {c : Code} {top0 : List Blk} {args : List PV} {K : Exit → List PV → List Blk → Prop} {V : Nat → Prop}
    {mo : List (Nat × Tr)} (hg : drawsM C.give C.frz C.fcl mo c = true) (hf : C.P.funcs[f]? = some fn) (hb : fn.body = some c) (h : padK args fn.ntmps fun tm => wpM C H mo c K tm top0)
    (m : M) (vs : Array Value) (hinv : Inv m top0 H) (hfree : ∀ i, top0.length ≤ i → m.ρ 0 i = none) (hlen : args.length = vs.size) (hargs : ∀ (j : Nat) p v, args[j]? = some p → vs[j]? = some v → RP m p v)
    (m0 : M0) (h0 : m0 = { toM := m, g := top0, V := V, Z := fun _ => none, W := fun _ => True, A := fun _ => none, ds := [], tsz := fn.ntmps, rnd := false })
    (hcalm : Calm H m0 m [] top0 V) {R : Ending → World → Prop}
    (fin : ∀ e, (e = .normal ∨ e = .ret) → ∀ tm top m' a V', K e tm top → St H { m0 with ds := a.defers } m' a tm top → (∃ ds, Calm H m0 m' ds top V') → ∃ v, (results fn a.tmps).run C.P m'.w = .ok v m'.w ∧ R (.returned v) m'.w)
    (hno : ∀ e tm top, okE e = true → K e tm top → e = .normal ∨ e = .ret) (hF : C.fcl = true → ∀ k, ¬ Mine m top0 k) : Calls C.P f vs m.w R := by
  obtain ⟨hle, h⟩ := padK_spec h
  rw [← callsIn_wide (n := 0)]
  have hH : ∀ top l i b v k, getB top H (l + 1) i = some b → b.live = true → m0.ρ (l + 1) i = some v → blkOf v = some k → k < m0.w.heap.size := fun top l i b v k e1 e2 e3 e4 => by
    subst h0
    exact hinv.lt k (hinv.own (l + 1) i b v k e1 e2 e3 e4)
  refine callsIn_of_wp_marks hf hb trivial (wpIn_mono (wpC_sound hC c hg none m0 K _ _ m { tmps := vs ++ Array.replicate (fn.ntmps - vs.size) undef, defers := [] } (fun l e => by cases e) (fun d _ => by subst h0; trivial) (fun h => by subst h0; exact hF h) h ⟨⟨hinv, ?_, fun j p v hp hv => ?_, rfl, fun j hj => hfree j hj, ?_, ?_, fun j hj => absurd trivial (by subst h0; exact hj)⟩, V, hcalm⟩) ?_)
  · simp [hlen]
  · rcases Nat.lt_or_ge j args.length with h1 | h1
    · rw [List.getElem?_append_left h1] at hp
      rw [Array.getElem?_append_left (by omega)] at hv
      exact hargs j p v hp hv
    · rw [List.getElem?_append_right h1] at hp
      have := List.mem_of_getElem? hp
      rw [List.mem_replicate] at this
      rw [this.2]; exact .any _
  · subst h0; exact ⟨rfl, rfl, rfl, Nat.le_refl _, fun _ _ _ _ => rfl, fun _ _ => rfl, fun _ _ => Iff.rfl, fun k hk => .inr hk⟩
  · subst h0; simp; omega
  · rintro e a w ⟨hok, tm, top, m', rfl, hk, hs, V', hc⟩
    have hz : ∀ k, m0.Z k = none := by subst h0; intro k; rfl
    have hrnd : m0.rnd = false := by subst h0; rfl
    rcases hno e tm top hok hk with rfl | rfl
    · exact leaves_spec hz hrnd (hH top) (fun m hs hc => fin .normal (.inl rfl) tm top m a V' hk hs hc) a.defers m' hs hc
    · exact leaves_spec hz hrnd (hH top) (fun m hs hc => fin .ret (.inr rfl) tm top m a V' hk hs hc) a.defers m' hs hc

theorem body_spec {C : Cx} (hC : C.Ok) {H : List (List Blk)} {f : Nat} {fn : Func} {c : Code} {G : List RowB} {args : List PV} {r : PV} {N : List RowB}
    {mo : List (Nat × Tr)} (hg : drawsM C.give C.frz C.fcl mo c = true) (hf : C.P.funcs[f]? = some fn) (hb : fn.body = some c) (h : padK args fn.ntmps fun tm => wpM C H mo c (retK C H fn.results.toList r N) tm (G.map RowB.blk))
    (m : M) (vs : Array Value) (hinv : Inv m (G.map RowB.blk) H) (hfree : ∀ i, G.length ≤ i → m.ρ 0 i = none) (hlen : args.length = vs.size) (hargs : ∀ (j : Nat) p v, args[j]? = some p → vs[j]? = some v → RP m p v) (hF : C.fcl = true → ∀ k, ¬ Mine m (G.map RowB.blk) k) :
    Calls C.P f vs m.w fun e w' => ∃ (v : Value) (m2 : M), e = .returned v ∧ m2.w = w' ∧ (∀ i, N.length ≤ i → m2.ρ 0 i = none) ∧ Since (M0.of m (G.map RowB.blk)) m2 (N.map RowB.blk) ∧ Inv m2 (N.map RowB.blk) H ∧ RP m2 r v := by
  refine run_spec hC hg hf hb h m vs hinv (fun i hi => hfree i (by simpa using hi)) hlen hargs _ rfl (V := fun _ => False) ?_ ?_ ?_ hF
  · have ng : ∀ (i : Nat) Y st, (G.map RowB.blk)[i]? = some (.gen Y st) → False := fun i Y st hi => by
      rw [List.getElem?_map] at hi
      obtain ⟨r, _, hr⟩ := Option.map_eq_some_iff.1 hi
      have := r.noGen
      rw [hr] at this; cases this
    exact ⟨fun i j Y st Y' st' h1 _ => (ng i Y st h1).elim, fun k h => h.elim, fun k h => h, fun k h _ => h, fun k h => h.elim, fun i Y st h => (ng i Y st h).elim, (fun k o h => by cases h), List.nodup_nil, fun _ d hd => (by cases hd), fun d hd => (by cases hd)⟩
  · rintro e he tm top m' a V' hk hs _
    have hk : resK C H tm top fn.results.toList fun ps => oneK ps fun p => ∃ s, nodupB s = true ∧ refP s s.length top.length p r ∧ refN top s N := by rcases he with rfl | rfl <;> exact hk
    obtain ⟨v, hrun, m2, hw, h0, h1, h2, h3⟩ := ret_spec hC hs hk
    exact ⟨v, hrun, v, m2, rfl, hw, h0, ⟨h1.os, h1.tape, h1.output, h1.size, fun k hk hm hv => h1.heap k hk hm (fun h => h), h1.up, h1.U, h1.fresh⟩, h2, h3⟩
  · intro e tm top _ hk
    cases e <;> first | exact .inl rfl | exact .inr rfl | exact hk.elim

theorem callEq_of_bodyM {C : Cx} (hC : C.Ok) {H : List (List Blk)} {f : Nat} {fn : Func} {c : Code} {args : List PV} {r : PV} {N : List RowB}
    {mo : List (Nat × Tr)} (hg : drawsM C.give C.frz C.fcl mo c = true) (hf : C.P.funcs[f]? = some fn) (hb : fn.body = some c) (h : padK args fn.ntmps fun tm => wpM C H mo c (retK C H fn.results.toList r N) tm []) : CallEq C H f args r N := by
  unfold CallEq
  intro m vs hinv hfree hlen hargs
  refine (body_spec hC (G := []) hg hf hb h m vs hinv (fun i _ => hfree i) hlen hargs (fun _ k ⟨i, b, v, h, _⟩ => by simp at h)).mono ?_
  rintro e w' ⟨v, m2, rfl, rfl, hfr, t, hi, hr⟩
  have nm : ∀ k, ¬ Mine m [] k := fun k ⟨i, b, v, h, _⟩ => by simp at h
  refine ⟨v, m2, rfl, rfl, ⟨t.os, t.tape, t.output, t.size, fun k hk => t.heap k hk (nm k) (fun h => h), fun l i v hv => ?_, t.U⟩, t.up, fun j u k hu hk => ?_, hi, hr⟩
  · cases l with
    | zero => rw [hfree i] at hv; cases hv
    | succ l => exact (t.up l i).trans hv
  · have hj : j < N.length := by
      rcases Nat.lt_or_ge j N.length with h | h
      · exact h
      · rw [hfr j h] at hu; cases hu
    exact (t.fresh k ⟨j, (N[j]).blk, u, by simp [hj], RowB.live _, hu, hk⟩).resolve_right (nm k)

theorem callEq_of_body {C : Cx} (hC : C.Ok) {H : List (List Blk)} {f : Nat} {fn : Func} {c : Code} {args : List PV} {r : PV} {N : List RowB}
    (hg : C.good f = true) (hf : C.P.funcs[f]? = some fn) (hb : fn.body = some c) (h : padK args fn.ntmps fun tm => wpC C H c (retK C H fn.results.toList r N) tm []) (hz : C.frz = false := by rfl) (hz2 : C.fcl = false := by rfl) : CallEq C H f args r N :=
  callEq_of_bodyM hC (mo := []) (by rw [hz, hz2]; exact (draws_nil _ _).trans (good_draws hC hg hf hb)) hf hb h

/-- A function to which rows are given for good. -/
theorem callEqG_of_bodyM {C : Cx} (hC : C.Ok) {H : List (List Blk)} {f : Nat} {fn : Func} {c : Code} {G : List RowB} {args : List PV} {r : PV} {N : List RowB}
    {mo : List (Nat × Tr)} (hg : drawsM C.give C.frz C.fcl mo c = true) (hf : C.P.funcs[f]? = some fn) (hb : fn.body = some c) (h : padK args fn.ntmps fun tm => wpM C H mo c (retK C H fn.results.toList r N) tm (blksOf G)) (hz2 : C.fcl = false := by rfl) : CallEqG C H f G args (G.map fun _ => none) r N := by
  rw [blksOf_eq] at h
  unfold CallEqG
  refine ⟨by simp, fun m vs hinv hfree hlen hargs => ?_⟩
  refine (body_spec hC (G := G) hg hf hb h m vs hinv hfree hlen hargs (fun h => by rw [hz2] at h; cases h)).mono ?_
  · rintro e w' ⟨v, m', rfl, rfl, hl, t, hi, hr⟩
    let m2 : M := ⟨m'.w, fun l i => match l with | 0 => if i < N.length then m'.ρ 0 i else m.ρ 0 (i - N.length) | l + 1 => m'.ρ (l + 1) i, m'.U⟩
    have hlo : ∀ i, i < N.length → m2.ρ 0 i = m'.ρ 0 i := fun i hi => by show (if i < N.length then _ else _) = _; rw [if_pos hi]
    have hhi : ∀ i, m2.ρ 0 (N.length + i) = m.ρ 0 i := fun i => by show (if N.length + i < N.length then _ else m.ρ 0 (N.length + i - N.length)) = _; rw [if_neg (by omega), show N.length + i - N.length = i by omega]
    have hK : Keep m' m2 := by
      refine ⟨fun l i u hu => ?_, Nat.le_refl _, fun k hk => ⟨hk.2, rfl⟩⟩
      cases l with
      | succ l => exact hu
      | zero =>
        rw [hlo]
        · exact hu
        · rcases Nat.lt_or_ge i N.length with h | h
          · exact h
          · rw [hl i h] at hu; cases hu
    have get : ∀ l i b, getB (N.map RowB.blk ++ (G.map fun _ => (none : Option RowB)).map gblk) H l i = some b → b.live = true → getB (N.map RowB.blk) H l i = some b ∧ m2.ρ l i = m'.ρ l i := by
      intro l i b hb hlv
      cases l with
      | succ l => exact ⟨hb, rfl⟩
      | zero =>
        simp only [getB] at hb ⊢
        rcases Nat.lt_or_ge i N.length with h | h
        · rw [List.getElem?_append_left (by simpa using h)] at hb
          exact ⟨hb, hlo i h⟩
        · rw [List.getElem?_append_right (by simpa using h)] at hb
          simp only [List.map_map, List.getElem?_map] at hb
          obtain ⟨r, _, rfl⟩ := Option.map_eq_some_iff.1 hb
          cases hlv
    refine ⟨v, m2, rfl, rfl, ⟨t.os, t.tape, t.output, t.size, t.heap, t.up, t.U, fun k hk => ?_⟩, fun i _ => hhi i, ⟨fun l i b hb => ?_, fun l i b l' i' b' v v' k h1 h2 h3 h4 h5 h6 => ?_, fun l i b v k h1 h2 h3 => ?_, hi.lt⟩, hr.keep hK⟩
    · obtain ⟨j, b, u, e1, e2, e3, e4⟩ := hk
      obtain ⟨a1, a2⟩ := get 0 j b (by simpa [getB] using e1) e2
      exact t.fresh k ⟨j, b, u, a1, e2, a2 ▸ e3, e4⟩
    · cases hlv : b.live with
      | false => cases b <;> simp [Blk.live] at hlv <;> exact True.intro
      | true =>
        obtain ⟨h1, h2⟩ := get l i b hb hlv
        exact (hi.blk l i b h1).keep hK h2 (fun _ _ _ _ _ => rfl)
    · obtain ⟨a1, a2⟩ := get l i b h1 h2
      obtain ⟨b1, b2⟩ := get l' i' b' h3 h4
      exact hi.inj l i b l' i' b' v v' k a1 h2 b1 h4 (a2 ▸ h5) (b2 ▸ h6)
    · obtain ⟨a1, a2⟩ := get l i b h1 h2
      exact hi.own l i b v k a1 h2 (a2 ▸ h3)
theorem callEqG_of_body {C : Cx} (hC : C.Ok) {H : List (List Blk)} {f : Nat} {fn : Func} {c : Code} {G : List RowB} {args : List PV} {r : PV} {N : List RowB}
    (hg : C.good f = true) (hf : C.P.funcs[f]? = some fn) (hb : fn.body = some c) (h : padK args fn.ntmps fun tm => wpC C H c (retK C H fn.results.toList r N) tm (blksOf G)) (hz : C.frz = false := by rfl) (hz2 : C.fcl = false := by rfl) : CallEqG C H f G args (G.map fun _ => none) r N :=
  callEqG_of_bodyM hC (mo := []) (by rw [hz, hz2]; exact (draws_nil _ _).trans (good_draws hC hg hf hb)) hf hb h hz2

/-! ### iterators -/
def iterK (Y : Yield) : Exit → List PV → List Blk → Prop := fun e _ top =>
  match e with
  | .normal => genK top 0 fun _ Y' st => Y' = Y ∧ (match st with | some k => k = Y.xs.length | none => True)
  | .ret => genK top 0 fun _ Y' st => Y' = Y ∧ (match st with | some k => k = Y.xs.length | none => True)
  | _ => False
theorem iterEq_of_bodyM {C : Cx} (hC : C.Ok) {f : Nat} {fn : Func} {c : Code} {G : List RowB} {args : List PV} {xs : List (List YV)}
    {mo : List (Nat × Tr)} (hg : drawsM C.give C.frz C.fcl mo c = true) (hf : C.P.funcs[f]? = some fn) (hb : fn.body = some c) (hres : fn.results = #[])
    (h : ∀ Y : Yield, Y.P = C.P → Y.xs = xs → padK (.yld Y :: args) fn.ntmps fun tm => wpM C [] mo c (iterK Y) tm (blksOf G ++ [.gen Y (some 0)])) (hz2 : C.fcl = false := by rfl) : IterEq C f G args xs := by
  unfold IterEq
  intro Y V m vs y hP hxs hY hinv hfree hlen hargs hVU hVm hJ
  have hB := blksOf_eq G
  have ng : ∀ (i : Nat) Y st, (G.map RowB.blk)[i]? = some (.gen Y st) → False := fun i Y st hi => by
    rw [List.getElem?_map] at hi
    obtain ⟨r, _, hr⟩ := Option.map_eq_some_iff.1 hi
    have := r.noGen
    rw [hr] at this; cases this
  have get : ∀ (i : Nat) b, (blksOf G ++ [.gen Y (some 0)])[i]? = some b → (G.map RowB.blk)[i]? = some b ∨ (i = G.length ∧ b = .gen Y (some 0)) := fun i b hi => by
    rw [hB] at hi
    rcases Nat.lt_or_ge i (G.map RowB.blk).length with h1 | h1
    · rw [List.getElem?_append_left h1] at hi; exact .inl hi
    · rw [List.getElem?_append_right h1] at hi
      have h2 := (List.getElem?_eq_some_iff.1 hi).1
      simp at h2 h1
      have : i = G.length := by omega
      subst this
      simp at hi
      exact .inr ⟨rfl, hi.symm⟩
  have mineLe : ∀ k, Mine m (blksOf G ++ [.gen Y (some 0)]) k → Mine m (G.map RowB.blk) k := by
    rintro k ⟨i, b, v, h1, h2, h3, h4⟩
    rcases get i b h1 with h1 | ⟨_, rfl⟩
    · exact ⟨i, b, v, h1, h2, h3, h4⟩
    · cases h2
  have hinv' : Inv m (blksOf G ++ [.gen Y (some 0)]) [] := by
    have old : ∀ l i b, getB (blksOf G ++ [.gen Y (some 0)]) [] l i = some b → b.live = true → getB (G.map RowB.blk) [] l i = some b := fun l i b h1 h2 => by
      cases l with
      | succ l => simp [getB] at h1
      | zero =>
        simp only [getB] at h1 ⊢
        rcases get i b h1 with h1 | ⟨_, rfl⟩
        · exact h1
        · cases h2
    refine ⟨fun l i b h1 => ?_, fun l i b l' i' b' v v' k h1 h2 h3 h4 h5 h6 h7 h8 => hinv.inj l i b l' i' b' v v' k (old l i b h1 h2) h2 (old l' i' b' h3 h4) h4 h5 h6 h7 h8, fun l i b v k h1 h2 h3 h4 => hinv.own l i b v k (old l i b h1 h2) h2 h3 h4, hinv.lt⟩
    cases hlv : b.live with
    | false => cases b <;> simp [Blk.live] at hlv <;> exact True.intro
    | true => exact hinv.blk l i b (old l i b h1 hlv)
  refine run_spec hC hg hf hb (h Y hP hxs) m (#[y] ++ vs) hinv' (fun i hi => hfree i (by rw [hB] at hi; simp at hi; omega)) (by simp [hlen]; omega) (fun j p v hp hv => ?_) _ rfl (V := V) ?_ ?_ ?_ (fun h => by rw [hz2] at h; cases h)
  · cases j with
    | zero =>
      rw [Array.getElem?_append_left (by simp)] at hv
      simp at hp hv; subst hp; subst hv; exact .yld Y _ hY
    | succ j =>
      refine hargs j p v (by simpa using hp) ?_
      rw [Array.getElem?_append_right (by simp)] at hv
      simpa using hv
  · refine ⟨fun i j Y1 st1 Y2 st2 h1 h2 => ?_, hVU, fun k h => h, fun k h _ => h, fun k hk hm => hVm k hk (mineLe k hm), fun i Y1 st1 h1 => ?_, (fun k o h => by cases h), List.nodup_nil, fun _ d hd => (by cases hd), fun d hd => (by cases hd)⟩
    · rcases get i _ h1 with h1 | ⟨rfl, _⟩
      · exact (ng i Y1 st1 h1).elim
      · rcases get j _ h2 with h2 | ⟨rfl, _⟩
        · exact (ng j Y2 st2 h2).elim
        · rfl
    · rcases get i _ h1 with h1 | ⟨_, h1⟩
      · exact (ng i Y1 st1 h1).elim
      · cases h1; exact ⟨rfl, hY.1, hJ⟩
  · rintro e he tm top m' a V' hk hs ⟨ds, hc⟩
    have hk : genK top 0 fun _ Y' st => Y' = Y ∧ (match st with | some k => k = Y.xs.length | none => True) := by rcases he with rfl | rfl <;> exact hk
    obtain ⟨i, Y', st, ⟨rfl, hst⟩, hb'⟩ := genK_spec top 0 _ hk
    obtain ⟨_, _, hJ'⟩ := hc.gen i _ st hb'
    have hr0 : fn.results.toList = [] := by rw [hres]
    refine ⟨.tuple #[], results_run (vs := []) (by rw [hr0]; simp), _, m'.U, V', st, rfl, hs.since.os, hs.since.tape, hs.since.output, hs.since.size, hs.since.U, fun k hk hm hv => hs.since.heap k hk (fun h => hm (mineLe k h)) hv, fun k h => hc.more k h, fun k h => ?_, hc.used, hs.inv.lt, hJ', ?_⟩
    · rcases Nat.lt_or_ge k m.w.heap.size with h1 | h1
      · exact .inl (hc.old k h h1)
      · exact .inr h1
    · cases st with
      | none => exact .inr rfl
      | some k => exact .inl (by rw [hst, hxs])
  · intro e tm top _ hk
    cases e <;> first | exact .inl rfl | exact .inr rfl | exact hk.elim
theorem iterEq_of_body {C : Cx} (hC : C.Ok) {f : Nat} {fn : Func} {c : Code} {G : List RowB} {args : List PV} {xs : List (List YV)} (hg : C.good f = true) (hf : C.P.funcs[f]? = some fn) (hb : fn.body = some c) (hres : fn.results = #[])
    (h : ∀ Y : Yield, Y.P = C.P → Y.xs = xs → padK (.yld Y :: args) fn.ntmps fun tm => wpC C [] c (iterK Y) tm (blksOf G ++ [.gen Y (some 0)])) (hz : C.frz = false := by rfl) (hz2 : C.fcl = false := by rfl) : IterEq C f G args xs :=
  iterEq_of_bodyM hC (mo := []) (by rw [hz, hz2]; exact (draws_nil _ _).trans (good_draws hC hg hf hb)) hf hb hres h hz2
/-! ### other ways to walk -/
/-- fz: a literal row of no elements is one without room; fc: rows that are handed to a call, or put into a literal, are plain from then on -/
def Cx.md (C : Cx) (fz fc : Bool) : Cx := ⟨C.P, C.L, C.n, C.no, C.bad, C.give, C.cmp, C.grow, fz, fc⟩
theorem Cx.Ok.md {C : Cx} (h : C.Ok) (fz fc : Bool) : (C.md fz fc).Ok := ⟨h.rows, h.closed, h.funs, h.mix, h.draws, h.cmps, h.grows⟩
theorem CallEq.md {C : Cx} {H : List (List Blk)} {f : Nat} {args : List PV} {r : PV} {N : List RowB} (h : CallEq C H f args r N) (fz fc : Bool) : CallEq (C.md fz fc) H f args r N := by
  unfold CallEq at h ⊢; exact h
theorem CallEq.ofmd {C : Cx} {H : List (List Blk)} {f : Nat} {args : List PV} {r : PV} {N : List RowB} {fz fc : Bool} (h : CallEq (C.md fz fc) H f args r N) : CallEq C H f args r N := by
  unfold CallEq at h ⊢; exact h
theorem CallEqG.md {C : Cx} {H : List (List Blk)} {f : Nat} {G : List RowB} {args : List PV} {G' : List (Option RowB)} {r : PV} {N : List RowB} (h : CallEqG C H f G args G' r N) (fz fc : Bool) : CallEqG (C.md fz fc) H f G args G' r N := by
  unfold CallEqG at h ⊢; exact h
theorem callEq_of_bodyF {C : Cx} (hC : C.Ok) {H : List (List Blk)} {f : Nat} {fn : Func} {c : Code} {args : List PV} {r : PV} {N : List RowB} (fz fc : Bool) {mo : List (Nat × Tr)} (hg : drawsM C.give fz fc mo c = true) (hf : C.P.funcs[f]? = some fn) (hb : fn.body = some c)
    (h : padK args fn.ntmps fun tm => wpM (C.md fz fc) H mo c (retK (C.md fz fc) H fn.results.toList r N) tm []) : CallEq C H f args r N :=
  (callEq_of_bodyM (hC.md fz fc) (mo := mo) hg hf hb h).ofmd
end Go.Proofs.Ve

/- New rows of a call, seen as plain data from then on. -/
set_option linter.all false
namespace Go.Proofs.Ve
open Go

def fz (N : List RowB) (k : Nat) : PV → PV :=
  Nat.rec (motive := fun _ => PV → PV) (fun _ => .any) (fun _ ih p => match p with
    | .row 0 i n => (match N[i]? with | some r => (match Nat.beq r.sz 0 with | true => .any | false => .d (.sl (r.xs.take n))) | none => .any)
    | .agg cs => .agg (cs.map ih)
    | .tuple cs => .tuple (cs.map ih)
    | .kb b => .kb b
    | .ub => .ub
    | .d x => .d x
    | .nils => .nils
    | .emp => .emp
    | .iptr cs => .iptr cs
    | _ => .any) k
def froM (m : M) (n : Nat) : M := ⟨m.w, fun l i => match l with | 0 => none | l + 1 => m.ρ (l + 1) i, fun k => m.U k ∧ ¬ ∃ i v, i < n ∧ m.ρ 0 i = some v ∧ blkOf v = some k⟩
theorem fro_ok {m : M} {n k : Nat} (h : m.ok k) : (froM m n).ok k := ⟨h.1, fun hu => h.2 hu.1⟩
theorem fz_rp {m : M} {N : List RowB} {H : List (List Blk)} (hi : Inv m (N.map RowB.blk) H) : ∀ (k : Nat) (p : PV) (v : Value), RP m p v → RP (froM m N.length) (fz N k p) v
  | 0, p, v, h => .any _
  | k + 1, p, v, h => by
    cases h with
    | any v => exact .any v
    | yld Y => exact .any _
    | kb b => exact .kb b
    | ub b => exact .ub b
    | d x v h => exact .d _ _ (h.mono fun k hk => ⟨fro_ok hk, rfl⟩)
    | nils => exact .nils
    | emp ad => exact .emp ad
    | row l i n A0 c A hρ hn hc =>
      cases l with
      | succ l => exact .any _
      | zero =>
        change RP _ (match N[i]? with | some r => (match Nat.beq r.sz 0 with | true => .any | false => PV.d (.sl (r.xs.take n))) | none => .any) _
        cases hN : N[i]? with
        | none => exact .any _
        | some r =>
          have hil : i < N.length := (List.getElem?_eq_some_iff.1 hN).1
          show RP _ (match Nat.beq r.sz 0 with | true => .any | false => PV.d (.sl (r.xs.take n))) _
          cases hz : Nat.beq r.sz 0 with
          | true => exact .any _
          | false =>
          exact .d _ _ (own_rd (i := i) (e := r.e) (sz := r.sz) hi (by rw [List.getElem?_map, hN]; unfold RowB.blk; rw [Option.map_some, hz]) hρ hn hc rfl (fun k hk => fro_ok hk) (fun k hk hu => hu.2 ⟨i, _, hil, hρ, hk⟩))
    | ptr l i o g hρ => exact .any _
    | rptr l i sz e j g A0 c hρ => exact .any _
    | iptr cs ad u hc hr => exact RP.other (m := m) (m' := froM m N.length) rfl (fun _ h => h.1) rfl (.iptr cs ad u hc hr)
    | func fn fs cs fv cv h1 h2 h3 h4 => exact .any _
    | agg cs vs h1 h2 =>
      refine .agg _ _ (by simp [h1]) (fun j p v hp hv => ?_)
      rw [List.getElem?_map] at hp
      obtain ⟨q, hq, rfl⟩ := Option.map_eq_some_iff.1 hp
      exact fz_rp hi k q v (h2 j q v hq hv)
    | tuple cs vs h1 h2 =>
      refine .tuple _ _ (by simp [h1]) (fun j p v hp hv => ?_)
      rw [List.getElem?_map] at hp
      obtain ⟨q, hq, rfl⟩ := Option.map_eq_some_iff.1 hp
      exact fz_rp hi k q v (h2 j q v hq hv)
/-- New rows that nobody turns any more are plain data. -/
theorem CallEq.freeze {C : Cx} {H : List (List Blk)} {f : Nat} {args : List PV} {r : PV} {N : List RowB} (h : CallEq C H f args r N) (k : Nat) {r' : PV} (hr : fz N k r = r') : CallEq C H f args r' [] := by
  subst hr
  unfold CallEq at h ⊢
  intro m vs hinv hfree hlen hargs
  refine (h m vs hinv hfree hlen hargs).mono ?_
  rintro e w' ⟨v, m', rfl, rfl, hg, hup, hfr, hi, hr⟩
  refine ⟨v, froM m' N.length, rfl, rfl, ⟨hg.os, hg.tape, hg.output, hg.size, hg.heap, fun l i u hu => ?_, fun j hj => ?_⟩, fun l i => hup l i, (fun j u k hu => by cases hu), ⟨fun l i b hb => ?_, fun l i b l' i' b' u u' j h1 h2 h3 h4 h5 h6 h7 h8 => ?_, fun l i b u j h1 h2 h3 h4 => ?_, fun j hj => hi.lt j hj.1⟩, fz_rp hi k r v hr⟩
  · cases l with
    | zero => rw [hfree i] at hu; cases hu
    | succ l => exact (hup l i).trans hu
  · refine Iff.trans ⟨fun hu => hu.1, fun hu => ⟨hu, ?_⟩⟩ (hg.U j hj)
    rintro ⟨i, u, _, hu, hk⟩
    have := hfr i u j hu hk
    omega
  · cases l with
    | zero => simp [getB] at hb
    | succ l =>
      have hbo := hi.blk (l + 1) i b hb
      cases b with
      | dead => trivial
      | gen Y st => trivial
      | row e sz xs =>
        intro u hu
        obtain ⟨a1, a2, flat, a3, a4⟩ := hbo u hu
        exact ⟨a1, a2, flat, a3, fun i x j y u hx hy hu => (a4 i x j y u hx hy hu).mono fun k hk => ⟨fro_ok hk, rfl⟩⟩
      | box cs =>
        intro u hu
        obtain ⟨g, us, e, q1, q2, q3, q4⟩ := hbo u hu
        refine ⟨g, us, e, q1, q2, q3, fun j p x hp hx => ?_⟩
        have K : Keep (m'.up (l + 1)) ((froM m' N.length).up (l + 1)) := ⟨fun a i' u' hu' => hu', Nat.le_refl _, fun k hk => ⟨fun hu => hk.2 hu.1, rfl⟩⟩
        exact (q4 j p x hp hx).keep K
  · cases l with
    | zero => simp [getB] at h1
    | succ l =>
      cases l' with
      | zero => simp [getB] at h3
      | succ l' => exact hi.inj (l + 1) i b (l' + 1) i' b' u u' j h1 h2 h3 h4 h5 h6 h7 h8
  · cases l with
    | zero => simp [getB] at h1
    | succ l =>
      refine ⟨hi.own (l + 1) i b u j h1 h2 h3 h4, ?_⟩
      rintro ⟨i', u', hi', hu', hk'⟩
      have hN : getB (N.map RowB.blk) H 0 i' = some (N[i']).blk := by simp [getB, hi']
      have := hi.inj (l + 1) i b 0 i' _ u u' j h1 h2 hN (RowB.live _) h3 hu' h4 hk'
      cases this.1
end Go.Proofs.Ve

/-
  DERIVED: THE SHELF's CONTRACTS AT THIS DUMP, IN PLAIN WORDS (tools/lay-plain.mjs out of 'TryzShelf.lean', which tools/lay-shelf.mjs wrote): THE SAME DECLARATIONS UNDER THE SAME NAMES: 'import', 'namespace', 'open', 'def', 'theorem' AND NOTHING ELSE: no command of the shelf's: FOR A HAND-IN. Each laying: the table of numbers ('.._ren') and one theorem, a field a fact of the dump's own or the kernel's comparison; each contract: ONE APPLICATION.
-/
namespace Go.Proofs
open Go.Shelf
def Tryz.lays128_ren : Go.Shelf.Ren := ⟨fun | 128 => 127 | n => n, fun | 51 => 128 | 3 => 3 | 4 => 4 | 46 => 109 | 5 => 5 | 9 => 9 | n => n, fun | n => n⟩
theorem Tryz.lays128 : Go.Proofs.Lays.n128 Tryz.prog Tryz.lays128_ren := {
  mixed := by kernel_rfl
  f128 := Tryz.func127.trans (congrArg some (by kernel_rfl))
  t3 := Tryz.underlying3
  a3 := Tryz.isAgg3
  z3 := Tryz.sizeOf3
  v3 := Tryz.zeroValue3
  t4 := Tryz.underlying4
  a4 := Tryz.isAgg4
  z4 := Tryz.sizeOf4
  v4 := Tryz.zeroValue4
  t5 := Tryz.underlying5
  a5 := Tryz.isAgg5
  z5 := Tryz.sizeOf5
  v5 := Tryz.zeroValue5
  t9 := Tryz.underlying9
  a9 := Tryz.isAgg9
  z9 := Tryz.sizeOf9
  v9 := Tryz.zeroValue9
  t46 := Tryz.underlying109
  a46 := Tryz.isAgg109
  z46 := Tryz.sizeOf109
  v46 := Tryz.zeroValue109
  t51 := Tryz.underlying128
  a51 := Tryz.isAgg128
  z51 := Tryz.sizeOf128
  v51 := Tryz.zeroValue128 }
theorem Tryz.bits_Len32 (x : Int) (w : World) (h0 : 0 ≤ x) (h1 : x ≤ 4294967295) :
    Calls Tryz.prog 127 #[.int .u32 x] w fun e w' => e = .returned (.int .i64 (Lib.bitLen x.toNat)) ∧ w' = w := Any.bits_Len32 Tryz.lays128 x w h0 h1
def Tryz.lays125_ren : Go.Shelf.Ren := ⟨fun | 125 => 100 | 128 => 127 | 129 => 128 | n => n, fun | 46 => 109 | 3 => 3 | 51 => 128 | 53 => 130 | 4 => 4 | 5 => 5 | 9 => 9 | n => n, fun | n => n⟩
theorem Tryz.lays125 : Go.Proofs.Lays.n125 Tryz.prog Tryz.lays125_ren := {
  mixed := by kernel_rfl
  f125 := Tryz.func100.trans (congrArg some (by kernel_rfl))
  f128 := Tryz.func127.trans (congrArg some (by kernel_rfl))
  f129 := Tryz.func128.trans (congrArg some (by kernel_rfl))
  t3 := Tryz.underlying3
  a3 := Tryz.isAgg3
  z3 := Tryz.sizeOf3
  v3 := Tryz.zeroValue3
  t4 := Tryz.underlying4
  a4 := Tryz.isAgg4
  z4 := Tryz.sizeOf4
  v4 := Tryz.zeroValue4
  t5 := Tryz.underlying5
  a5 := Tryz.isAgg5
  z5 := Tryz.sizeOf5
  v5 := Tryz.zeroValue5
  t9 := Tryz.underlying9
  a9 := Tryz.isAgg9
  z9 := Tryz.sizeOf9
  v9 := Tryz.zeroValue9
  t46 := Tryz.underlying109
  a46 := Tryz.isAgg109
  z46 := Tryz.sizeOf109
  v46 := Tryz.zeroValue109
  t51 := Tryz.underlying128
  a51 := Tryz.isAgg128
  z51 := Tryz.sizeOf128
  v51 := Tryz.zeroValue128
  t53 := Tryz.underlying130
  a53 := Tryz.isAgg130
  z53 := Tryz.sizeOf130
  v53 := Tryz.zeroValue130 }
theorem Tryz.bits_Len (x : Int) (w : World) (h0 : 0 ≤ x) (h1 : x ≤ 18446744073709551615) :
    Calls Tryz.prog 100 #[.int .u64 x] w fun e w' => e = .returned (.int .i64 (Lib.bitLen x.toNat)) ∧ w' = w := Any.bits_Len Tryz.lays125 x w h0 h1
def Tryz.lays129_ren : Go.Shelf.Ren := ⟨fun | 129 => 128 | n => n, fun | 53 => 130 | 3 => 3 | 4 => 4 | 46 => 109 | 5 => 5 | 9 => 9 | n => n, fun | n => n⟩
theorem Tryz.lays129 : Go.Proofs.Lays.n129 Tryz.prog Tryz.lays129_ren := {
  mixed := by kernel_rfl
  f129 := Tryz.func128.trans (congrArg some (by kernel_rfl))
  t3 := Tryz.underlying3
  a3 := Tryz.isAgg3
  z3 := Tryz.sizeOf3
  v3 := Tryz.zeroValue3
  t4 := Tryz.underlying4
  a4 := Tryz.isAgg4
  z4 := Tryz.sizeOf4
  v4 := Tryz.zeroValue4
  t5 := Tryz.underlying5
  a5 := Tryz.isAgg5
  z5 := Tryz.sizeOf5
  v5 := Tryz.zeroValue5
  t9 := Tryz.underlying9
  a9 := Tryz.isAgg9
  z9 := Tryz.sizeOf9
  v9 := Tryz.zeroValue9
  t46 := Tryz.underlying109
  a46 := Tryz.isAgg109
  z46 := Tryz.sizeOf109
  v46 := Tryz.zeroValue109
  t53 := Tryz.underlying130
  a53 := Tryz.isAgg130
  z53 := Tryz.sizeOf130
  v53 := Tryz.zeroValue130 }
theorem Tryz.bits_Len64 (x : Int) (w : World) (h0 : 0 ≤ x) (h1 : x ≤ 18446744073709551615) :
    Calls Tryz.prog 128 #[.int .u64 x] w fun e w' => e = .returned (.int .i64 (Lib.bitLen x.toNat)) ∧ w' = w := Any.bits_Len64 Tryz.lays129 x w h0 h1
def Tryz.laysNm220_ren : Go.Shelf.Ren := ⟨fun | 20 => 98 | n => n, fun | 22 => 34 | 3 => 3 | 4 => 4 | 0 => 0 | n => n, fun | n => n⟩
theorem Tryz.laysNm220 : Go.Proofs.Lays2.n20 Tryz.prog Tryz.laysNm220_ren := {
  mixed := by kernel_rfl
  f20 := Tryz.func98.trans (congrArg some (by kernel_rfl))
  t0 := Tryz.underlying0
  a0 := Tryz.isAgg0
  z0 := Tryz.sizeOf0
  v0 := Tryz.zeroValue0
  t3 := Tryz.underlying3
  a3 := Tryz.isAgg3
  z3 := Tryz.sizeOf3
  v3 := Tryz.zeroValue3
  t4 := Tryz.underlying4
  a4 := Tryz.isAgg4
  z4 := Tryz.sizeOf4
  v4 := Tryz.zeroValue4
  t22 := Tryz.underlying34
  a22 := Tryz.isAgg34
  z22 := Tryz.sizeOf34
  v22 := Tryz.zeroValue34
  i3 := by kernel_rfl }
open Go.RowKit Go.Lib Go.Sort in
theorem Tryz.slices_Compact_int_arr (blk off cap : Nat) (d : Array Int) (w : World) (hH : Holds encI w blk off d) (hsz : d.size ≤ 9223372036854775807) (hcap : d.size ≤ cap) :
    Calls Tryz.prog 98 #[.slice (some ⟨blk, off, none⟩) d.size cap] w fun e w' => e = .returned (.slice (some ⟨blk, off, none⟩) (compactUpTo d d.size).length cap) ∧ ∃ q, w' = putRow encI (Sort.ahead w q) blk off (compactUpTo d d.size ++ List.replicate (d.size - (compactUpTo d d.size).length) 0).toArray := Any.slices_Compact_int_arr Tryz.laysNm220 blk off cap d w hH hsz hcap
open Go.RowKit Go.Lib Go.Sort in
theorem Tryz.slices_Compact_int (blk off cap : Nat) (zs : List Int) (w : World) (hH : Holds (Value.int .i64) w blk off zs.toArray) (hsz : zs.length ≤ 9223372036854775807) (hcap : zs.length ≤ cap) :
    Calls Tryz.prog 98 #[.slice (some ⟨blk, off, none⟩) zs.length cap] w fun e w' => e = .returned (.slice (some ⟨blk, off, none⟩) (Lib.compact zs).length cap) ∧ ∃ q, w' = putRow (Value.int .i64) (Sort.ahead w q) blk off (Lib.compact zs ++ List.replicate (zs.length - (Lib.compact zs).length) 0).toArray := Any.slices_Compact_int Tryz.laysNm220 blk off cap zs w hH hsz hcap
open Go.RowKit Go.Lib Go.Sort in
theorem Tryz.slices_Compact_int_empty (a : Option Addr) (cap : Nat) (w : World) :
    Calls Tryz.prog 98 #[.slice a 0 cap] w fun e w' => e = .returned (.slice a 0 cap) ∧ w' = w := Any.slices_Compact_int_empty Tryz.laysNm220 a cap w
def Tryz.laysNm237_ren : Go.Shelf.Ren := ⟨fun | 37 => 135 | n => n, fun | 3 => 3 | 4 => 4 | n => n, fun | n => n⟩
theorem Tryz.laysNm237 : Go.Proofs.Lays2.n37 Tryz.prog Tryz.laysNm237_ren := {
  mixed := by kernel_rfl
  f37 := Tryz.func135.trans (congrArg some (by kernel_rfl))
  t3 := Tryz.underlying3
  a3 := Tryz.isAgg3
  z3 := Tryz.sizeOf3
  v3 := Tryz.zeroValue3
  t4 := Tryz.underlying4
  a4 := Tryz.isAgg4
  z4 := Tryz.sizeOf4
  v4 := Tryz.zeroValue4 }
open Go.RowKit Go.Lib in
theorem Tryz.cmp_isNaN_int2 (x : Int) (w : World) :
    Calls Tryz.prog 135 #[.int .i64 x] w fun e w' => e = .returned (.bool false) ∧ w' = w := Any.cmp_isNaN_int2 Tryz.laysNm237 x w
def Tryz.laysNm231_ren : Go.Shelf.Ren := ⟨fun | 31 => 124 | 37 => 135 | n => n, fun | 3 => 3 | 4 => 4 | n => n, fun | n => n⟩
theorem Tryz.laysNm231 : Go.Proofs.Lays2.n31 Tryz.prog Tryz.laysNm231_ren := {
  mixed := by kernel_rfl
  f31 := Tryz.func124.trans (congrArg some (by kernel_rfl))
  f37 := Tryz.func135.trans (congrArg some (by kernel_rfl))
  t3 := Tryz.underlying3
  a3 := Tryz.isAgg3
  z3 := Tryz.sizeOf3
  v3 := Tryz.zeroValue3
  t4 := Tryz.underlying4
  a4 := Tryz.isAgg4
  z4 := Tryz.sizeOf4
  v4 := Tryz.zeroValue4 }
open Go.RowKit Go.Lib in
theorem Tryz.cmp_Less_int2 (x y : Int) (w : World) :
    Calls Tryz.prog 124 #[.int .i64 x, .int .i64 y] w fun e w' => e = .returned (.bool (decide (x < y))) ∧ w' = w := Any.cmp_Less_int2 Tryz.laysNm231 x y w
open Go.RowKit Go.Lib Go.Sort in
theorem Tryz.slices_Compact_int_cells (b off n c : Nat) (zs : List Int) (w : World) (hz : n ≤ zs.length) (hbig : n ≤ 9223372036854775807) (hcap : n ≤ c) (hc : ∀ j, j < zs.length → w.cell? ⟨b, off + j, none⟩ = some (.int .i64 (zs.getD j 0))) (hf : ∀ j, j < n → w.frozen? ⟨b, off + j, none⟩ = false) :
    Calls Tryz.prog 98 #[.slice (some ⟨b, off, none⟩) n c] w fun e w' => e = .returned (.slice (some ⟨b, off, none⟩) (Lib.compact (zs.take n)).length c) ∧ ∃ q, w' = (w.drewN q).setCells b off ((Lib.compact (zs.take n) ++ List.replicate (n - (Lib.compact (zs.take n)).length) 0).map (Value.int .i64)) := Any.slices_Compact_int_cells Tryz.laysNm220 b off n c zs w hz hbig hcap hc hf
def Tryz.lays189_ren : Go.Shelf.Ren := ⟨fun | 189 => 68 | 125 => 100 | 257 => 99 | 128 => 127 | 129 => 128 | 294 => 118 | 295 => 119 | 296 => 120 | 297 => 121 | 298 => 122 | 299 => 123 | 216 => 124 | 300 => 125 | 301 => 126 | 328 => 130 | 329 => 131 | 330 => 132 | 331 => 133 | 332 => 134 | 215 => 135 | 343 => 136 | n => n, fun | 28 => 34 | 3 => 3 | 46 => 109 | 0 => 0 | 51 => 128 | 53 => 130 | 4 => 4 | 183 => 122 | 182 => 121 | 131 => 60 | 5 => 5 | 9 => 9 | 218 => 132 | 222 => 136 | 228 => 138 | 229 => 139 | n => n, fun | n => n⟩
theorem Tryz.lays189 : Go.Proofs.Lays.n189 Tryz.prog Tryz.lays189_ren := {
  mixed := by kernel_rfl
  f125 := Tryz.func100.trans (congrArg some (by kernel_rfl))
  f128 := Tryz.func127.trans (congrArg some (by kernel_rfl))
  f129 := Tryz.func128.trans (congrArg some (by kernel_rfl))
  f189 := Tryz.func68.trans (congrArg some (by kernel_rfl))
  f215 := Tryz.func135.trans (congrArg some (by kernel_rfl))
  f216 := Tryz.func124.trans (congrArg some (by kernel_rfl))
  f257 := Tryz.func99.trans (congrArg some (by kernel_rfl))
  f294 := Tryz.func118.trans (congrArg some (by kernel_rfl))
  f295 := Tryz.func119.trans (congrArg some (by kernel_rfl))
  f296 := Tryz.func120.trans (congrArg some (by kernel_rfl))
  f297 := Tryz.func121.trans (congrArg some (by kernel_rfl))
  f298 := Tryz.func122.trans (congrArg some (by kernel_rfl))
  f299 := Tryz.func123.trans (congrArg some (by kernel_rfl))
  f300 := Tryz.func125.trans (congrArg some (by kernel_rfl))
  f301 := Tryz.func126.trans (congrArg some (by kernel_rfl))
  f328 := Tryz.func130.trans (congrArg some (by kernel_rfl))
  f329 := Tryz.func131.trans (congrArg some (by kernel_rfl))
  f330 := Tryz.func132.trans (congrArg some (by kernel_rfl))
  f331 := Tryz.func133.trans (congrArg some (by kernel_rfl))
  f332 := Tryz.func134.trans (congrArg some (by kernel_rfl))
  f343 := Tryz.func136.trans (congrArg some (by kernel_rfl))
  t0 := Tryz.underlying0
  a0 := Tryz.isAgg0
  z0 := Tryz.sizeOf0
  v0 := Tryz.zeroValue0
  t3 := Tryz.underlying3
  a3 := Tryz.isAgg3
  z3 := Tryz.sizeOf3
  v3 := Tryz.zeroValue3
  t4 := Tryz.underlying4
  a4 := Tryz.isAgg4
  z4 := Tryz.sizeOf4
  v4 := Tryz.zeroValue4
  t5 := Tryz.underlying5
  a5 := Tryz.isAgg5
  z5 := Tryz.sizeOf5
  v5 := Tryz.zeroValue5
  t9 := Tryz.underlying9
  a9 := Tryz.isAgg9
  z9 := Tryz.sizeOf9
  v9 := Tryz.zeroValue9
  t28 := Tryz.underlying34
  a28 := Tryz.isAgg34
  z28 := Tryz.sizeOf34
  v28 := Tryz.zeroValue34
  t46 := Tryz.underlying109
  a46 := Tryz.isAgg109
  z46 := Tryz.sizeOf109
  v46 := Tryz.zeroValue109
  t51 := Tryz.underlying128
  a51 := Tryz.isAgg128
  z51 := Tryz.sizeOf128
  v51 := Tryz.zeroValue128
  t53 := Tryz.underlying130
  a53 := Tryz.isAgg130
  z53 := Tryz.sizeOf130
  v53 := Tryz.zeroValue130
  t131 := Tryz.underlying60
  a131 := Tryz.isAgg60
  z131 := Tryz.sizeOf60
  v131 := Tryz.zeroValue60
  t182 := Tryz.underlying121
  a182 := Tryz.isAgg121
  z182 := Tryz.sizeOf121
  v182 := Tryz.zeroValue121
  t183 := Tryz.underlying122
  a183 := Tryz.isAgg122
  z183 := Tryz.sizeOf122
  v183 := Tryz.zeroValue122
  t218 := Tryz.underlying132
  a218 := Tryz.isAgg132
  z218 := Tryz.sizeOf132
  v218 := Tryz.zeroValue132
  t222 := Tryz.underlying136
  a222 := Tryz.isAgg136
  z222 := Tryz.sizeOf136
  v222 := Tryz.zeroValue136
  t228 := Tryz.underlying138
  a228 := Tryz.isAgg138
  z228 := Tryz.sizeOf138
  v228 := Tryz.zeroValue138
  t229 := Tryz.underlying139
  a229 := Tryz.isAgg139
  z229 := Tryz.sizeOf139
  v229 := Tryz.zeroValue139 }
open Go.RowKit Go.Sort in
theorem Tryz.slices_Sort_int_none (p : Option Addr) (cap : Nat) (w : World) :
    Calls Tryz.prog 68 #[.slice p 0 cap] w fun e w' => e = .returned (.tuple #[]) ∧ w' = w := Any.slices_Sort_int_none Tryz.lays189 p cap w
def Tryz.laysSlK4_ren : Go.Shelf.Ren := ⟨fun | 4 => 73 | n => n, fun | 22 => 25 | 4 => 4 | 5 => 5 | n => n, fun | n => n⟩
theorem Tryz.laysSlK4 : Go.Proofs.SlLaysK.n4 Tryz.prog Tryz.laysSlK4_ren := {
  mixed := by kernel_rfl
  f4 := Tryz.func73.trans (congrArg some (by kernel_rfl))
  t4 := Tryz.underlying4
  a4 := Tryz.isAgg4
  z4 := Tryz.sizeOf4
  v4 := Tryz.zeroValue4
  t22 := Tryz.underlying25
  a22 := Tryz.isAgg25
  z22 := Tryz.sizeOf25
  v22 := Tryz.zeroValue25
  t5 := Tryz.underlying5
  i5 := by kernel_rfl }
open Go.RowKit Go.Lib in
theorem Tryz.bytes_Clone_at (a : Addr) (n c : Nat) (xs : List Int) (w : World) (hx : xs.length = n) (hbig : n ≤ 140737488355328) (hc : ∀ i, i < n → w.cell? (a.add i) = some (.int .u8 (xs.getD i 0))) :
    Calls Tryz.prog 73 #[.slice (some a) n c] w fun e w' => ∃ v', e = .returned v' ∧ w'.ownsRow w.heap.size 5 1 v' n (xs.map (Value.int .u8)) ∧ v' ≠ .slice none 0 0 ∧ Below w.heap.size w w' := Any.bytes_Clone_at Tryz.laysSlK4 a n c xs w hx hbig hc
open Go.RowKit Go.Lib in
theorem Tryz.bytes_Clone_nil (n c : Nat) (w : World) :
    Calls Tryz.prog 73 #[.slice none n c] w fun e w' => e = .returned (.slice none 0 0) ∧ w' = w := Any.bytes_Clone_nil Tryz.laysSlK4 n c w
def Tryz.laysSlM5_f68_ren : Go.Shelf.Ren := ⟨fun | 5 => 68 | 8 => 100 | 7 => 99 | 19 => 127 | 20 => 128 | 10 => 118 | 11 => 119 | 12 => 120 | 13 => 121 | 14 => 122 | 15 => 123 | 16 => 124 | 17 => 125 | 18 => 126 | 30 => 130 | 31 => 131 | 32 => 132 | 33 => 133 | 34 => 134 | 35 => 135 | 40 => 136 | n => n, fun | 23 => 34 | 25 => 3 | 3 => 3 | 32 => 109 | 22 => 34 | 0 => 0 | 44 => 128 | 46 => 130 | 4 => 4 | 36 => 122 | 35 => 121 | 41 => 60 | 5 => 5 | 9 => 9 | 53 => 132 | 57 => 136 | 63 => 138 | 64 => 139 | n => n, fun | n => n⟩
theorem Tryz.laysSlM5_f68 : Go.Proofs.SlLaysM.n5 Tryz.prog Tryz.laysSlM5_f68_ren := {
  mixed := by kernel_rfl
  f5 := ⟨Tryz.f68.name, by decide, Tryz.func68.trans (congrArg some (by kernel_rfl))⟩
  f7 := ⟨Tryz.f99.name, by decide, Tryz.func99.trans (congrArg some (by kernel_rfl))⟩
  f8 := Tryz.func100.trans (congrArg some (by kernel_rfl))
  f10 := ⟨Tryz.f118.name, by decide, Tryz.func118.trans (congrArg some (by kernel_rfl))⟩
  f11 := ⟨Tryz.f119.name, by decide, Tryz.func119.trans (congrArg some (by kernel_rfl))⟩
  f12 := ⟨Tryz.f120.name, by decide, Tryz.func120.trans (congrArg some (by kernel_rfl))⟩
  f13 := ⟨Tryz.f121.name, by decide, Tryz.func121.trans (congrArg some (by kernel_rfl))⟩
  f14 := ⟨Tryz.f122.name, by decide, Tryz.func122.trans (congrArg some (by kernel_rfl))⟩
  f15 := ⟨Tryz.f123.name, by decide, Tryz.func123.trans (congrArg some (by kernel_rfl))⟩
  f16 := ⟨Tryz.f124.name, by decide, Tryz.func124.trans (congrArg some (by kernel_rfl))⟩
  f17 := ⟨Tryz.f125.name, by decide, Tryz.func125.trans (congrArg some (by kernel_rfl))⟩
  f18 := ⟨Tryz.f126.name, by decide, Tryz.func126.trans (congrArg some (by kernel_rfl))⟩
  f19 := Tryz.func127.trans (congrArg some (by kernel_rfl))
  f20 := Tryz.func128.trans (congrArg some (by kernel_rfl))
  f30 := ⟨Tryz.f130.name, by decide, Tryz.func130.trans (congrArg some (by kernel_rfl))⟩
  f31 := Tryz.func131.trans (congrArg some (by kernel_rfl))
  f32 := Tryz.func132.trans (congrArg some (by kernel_rfl))
  f33 := ⟨Tryz.f133.name, by decide, Tryz.func133.trans (congrArg some (by kernel_rfl))⟩
  f34 := ⟨Tryz.f134.name, by decide, Tryz.func134.trans (congrArg some (by kernel_rfl))⟩
  f35 := ⟨Tryz.f135.name, by decide, Tryz.func135.trans (congrArg some (by kernel_rfl))⟩
  f40 := ⟨Tryz.f136.name, by decide, Tryz.func136.trans (congrArg some (by kernel_rfl))⟩
  t0 := Tryz.underlying0
  a0 := Tryz.isAgg0
  z0 := Tryz.sizeOf0
  v0 := Tryz.zeroValue0
  t3 := Tryz.underlying3
  a3 := Tryz.isAgg3
  z3 := Tryz.sizeOf3
  v3 := Tryz.zeroValue3
  t4 := Tryz.underlying4
  a4 := Tryz.isAgg4
  z4 := Tryz.sizeOf4
  v4 := Tryz.zeroValue4
  t5 := Tryz.underlying5
  a5 := Tryz.isAgg5
  z5 := Tryz.sizeOf5
  v5 := Tryz.zeroValue5
  t9 := Tryz.underlying9
  a9 := Tryz.isAgg9
  z9 := Tryz.sizeOf9
  v9 := Tryz.zeroValue9
  t22 := Tryz.underlying34
  a22 := Tryz.isAgg34
  z22 := Tryz.sizeOf34
  v22 := Tryz.zeroValue34
  t23 := Tryz.underlying34
  a23 := Tryz.isAgg34
  z23 := Tryz.sizeOf34
  v23 := Tryz.zeroValue34
  t25 := Tryz.underlying3
  a25 := Tryz.isAgg3
  z25 := Tryz.sizeOf3
  v25 := Tryz.zeroValue3
  t32 := Tryz.underlying109
  a32 := Tryz.isAgg109
  z32 := Tryz.sizeOf109
  v32 := Tryz.zeroValue109
  t35 := Tryz.underlying121
  a35 := Tryz.isAgg121
  z35 := Tryz.sizeOf121
  v35 := Tryz.zeroValue121
  t36 := Tryz.underlying122
  a36 := Tryz.isAgg122
  z36 := Tryz.sizeOf122
  v36 := Tryz.zeroValue122
  t41 := Tryz.underlying60
  a41 := Tryz.isAgg60
  z41 := Tryz.sizeOf60
  v41 := Tryz.zeroValue60
  t44 := Tryz.underlying128
  a44 := Tryz.isAgg128
  z44 := Tryz.sizeOf128
  v44 := Tryz.zeroValue128
  t46 := Tryz.underlying130
  a46 := Tryz.isAgg130
  z46 := Tryz.sizeOf130
  v46 := Tryz.zeroValue130
  t53 := Tryz.underlying132
  a53 := Tryz.isAgg132
  z53 := Tryz.sizeOf132
  v53 := Tryz.zeroValue132
  t57 := Tryz.underlying136
  a57 := Tryz.isAgg136
  z57 := Tryz.sizeOf136
  v57 := Tryz.zeroValue136
  t63 := Tryz.underlying138
  a63 := Tryz.isAgg138
  z63 := Tryz.sizeOf138
  v63 := Tryz.zeroValue138
  t64 := Tryz.underlying139
  a64 := Tryz.isAgg139
  z64 := Tryz.sizeOf139
  v64 := Tryz.zeroValue139 }
open Go.Sort Go.RowKit in
theorem Tryz.slices_Sort_int (blk off cap : Nat) (zs : List Int) (w : World) (hH : Holds (Value.int .i64) w blk off zs.toArray) (hblk : blk < w.heap.size) (hsz : zs.length < 4611686018427387904) :
    Calls Tryz.prog 68 #[.slice (some ⟨blk, off, none⟩) zs.length cap] w fun e w' =>
      e = .returned (.tuple #[]) ∧ ∃ n os, w' = grow (putRow (Value.int .i64) (Sort.ahead w n) blk off (zs.mergeSort fun x y => decide (x ≤ y)).toArray) os := AnyM.slices_Sort_int Tryz.laysSlM5_f68 blk off cap zs w hH hblk hsz
def Tryz.laysGrow117_ren : Go.Shelf.Ren := ⟨fun | 4 => 117 | n => n, fun | 22 => 22 | 25 => 53 | 3 => 3 | 4 => 4 | 9 => 9 | 20 => 20 | 0 => 0 | n => n, fun | n => n⟩
theorem Tryz.laysGrow117 : Go.Proofs.Lays8.n4 Tryz.prog Tryz.laysGrow117_ren := {
  mixed := by kernel_rfl
  f4 := ⟨Tryz.f117.name, by decide, Tryz.func117.trans (congrArg some (by kernel_rfl))⟩
  t0 := Tryz.underlying0
  a0 := Tryz.isAgg0
  z0 := Tryz.sizeOf0
  v0 := Tryz.zeroValue0
  t3 := Tryz.underlying3
  a3 := Tryz.isAgg3
  z3 := Tryz.sizeOf3
  v3 := Tryz.zeroValue3
  t4 := Tryz.underlying4
  a4 := Tryz.isAgg4
  z4 := Tryz.sizeOf4
  v4 := Tryz.zeroValue4
  t9 := Tryz.underlying9
  a9 := Tryz.isAgg9
  z9 := Tryz.sizeOf9
  v9 := Tryz.zeroValue9
  t20 := Tryz.underlying20
  a20 := Tryz.isAgg20
  z20 := Tryz.sizeOf20
  v20 := Tryz.zeroValue20
  t22 := Tryz.underlying22
  a22 := Tryz.isAgg22
  z22 := Tryz.sizeOf22
  v22 := Tryz.zeroValue22 }
end Go.Proofs

/- The types' rows, and that the program has them. (No statement is proved here.) -/
set_option linter.all false
set_option maxRecDepth 100000
namespace Go.Proofs.Ve
open Go
def lay : List TyRow := [
  ⟨2, .int .i64, 1, 8, [.d (.int .i64 0)]⟩,
  ⟨3, .int .i64, 1, 8, [.d (.int .i64 0)]⟩,
  ⟨4, .bool, 1, 1, [.kb false]⟩,
  ⟨5, .int .u8, 1, 1, [.d (.int .u8 0)]⟩,
  ⟨9, .str, 1, 16, [.d (.str ⟨#[]⟩)]⟩,
  ⟨12, .int .u64, 1, 8, [.d (.int .u64 0)]⟩,
  ⟨21, .int .i32, 1, 4, [.d (.int .i32 0)]⟩,
  ⟨22, .slice 53, 1, 24, [.nils]⟩,
  ⟨23, .struct [(0, 22), (1, 22)], 2, 48, [.nils, .nils]⟩,
  ⟨24, .struct [(0, 22), (1, 22)], 2, 48, [.nils, .nils]⟩,
  ⟨25, .slice 5, 1, 24, [.nils]⟩,
  ⟨26, .struct [(0, 3), (1, 3), (2, 25), (3, 25), (4, 4), (5, 25), (6, 3)], 7, 104, [.d (.int .i64 0), .d (.int .i64 0), .nils, .nils, .kb false, .nils, .d (.int .i64 0)]⟩,
  ⟨27, .struct [(0, 3), (1, 3), (2, 25), (3, 25), (4, 4), (5, 25), (6, 3)], 7, 104, [.d (.int .i64 0), .d (.int .i64 0), .nils, .nils, .kb false, .nils, .d (.int .i64 0)]⟩,
  ⟨28, .slice 48, 1, 24, [.nils]⟩,
  ⟨29, .arr 4 3, 4, 32, [.d (.int .i64 0), .d (.int .i64 0), .d (.int .i64 0), .d (.int .i64 0)]⟩,
  ⟨34, .slice 3, 1, 24, [.nils]⟩,
  ⟨35, .struct [(0, 28), (1, 34)], 2, 48, [.nils, .nils]⟩,
  ⟨36, .struct [(0, 28), (1, 34)], 2, 48, [.nils, .nils]⟩,
  ⟨37, .int .i64, 1, 8, [.d (.int .i64 0)]⟩,
  ⟨47, .struct [(0, 3), (1, 25), (2, 4), (3, 25)], 4, 64, [.d (.int .i64 0), .nils, .kb false, .nils]⟩,
  ⟨48, .struct [(0, 3), (1, 25), (2, 4), (3, 25)], 4, 64, [.d (.int .i64 0), .nils, .kb false, .nils]⟩,
  ⟨50, .struct [(0, 3), (1, 25), (2, 25), (3, 4)], 4, 64, [.d (.int .i64 0), .nils, .nils, .kb false]⟩,
  ⟨51, .struct [(0, 3), (1, 25), (2, 25), (3, 4)], 4, 64, [.d (.int .i64 0), .nils, .nils, .kb false]⟩,
  ⟨52, .struct [(0, 3), (1, 4), (2, 51), (6, 3)], 7, 88, [.d (.int .i64 0), .kb false, .d (.int .i64 0), .nils, .nils, .kb false, .d (.int .i64 0)]⟩,
  ⟨53, .struct [(0, 3), (1, 4), (2, 51), (6, 3)], 7, 88, [.d (.int .i64 0), .kb false, .d (.int .i64 0), .nils, .nils, .kb false, .d (.int .i64 0)]⟩,
  ⟨62, .slice 92, 1, 24, [.nils]⟩,
  ⟨70, .struct [(0, 24)], 2, 48, [.nils, .nils]⟩,
  ⟨71, .struct [(0, 24)], 2, 48, [.nils, .nils]⟩,
  ⟨78, .slice 51, 1, 24, [.nils]⟩,
  ⟨85, .arr 4 4, 4, 4, [.kb false, .kb false, .kb false, .kb false]⟩,
  ⟨89, .arr 4 3, 4, 32, [.d (.int .i64 0), .d (.int .i64 0), .d (.int .i64 0), .d (.int .i64 0)]⟩,
  ⟨92, .arr 2 3, 2, 16, [.d (.int .i64 0), .d (.int .i64 0)]⟩,
  ⟨103, .arr 4 85, 16, 16, [.kb false, .kb false, .kb false, .kb false, .kb false, .kb false, .kb false, .kb false, .kb false, .kb false, .kb false, .kb false, .kb false, .kb false, .kb false, .kb false]⟩,
  ⟨109, .int .u64, 1, 8, [.d (.int .u64 0)]⟩,
  ⟨112, .arr 6 4, 6, 6, [.kb false, .kb false, .kb false, .kb false, .kb false, .kb false]⟩,
  ⟨113, .arr 6 112, 36, 36, [.kb false, .kb false, .kb false, .kb false, .kb false, .kb false, .kb false, .kb false, .kb false, .kb false, .kb false, .kb false, .kb false, .kb false, .kb false, .kb false, .kb false, .kb false, .kb false, .kb false, .kb false, .kb false, .kb false, .kb false, .kb false, .kb false, .kb false, .kb false, .kb false, .kb false, .kb false, .kb false, .kb false, .kb false, .kb false, .kb false]⟩,
  ⟨118, .slice 22, 1, 24, [.nils]⟩,
  ⟨121, .int .i64, 1, 8, [.d (.int .i64 0)]⟩,
  ⟨128, .int .u32, 1, 4, [.d (.int .u32 0)]⟩,
  ⟨130, .int .u64, 1, 8, [.d (.int .u64 0)]⟩,
  ⟨132, .int .u64, 1, 8, [.d (.int .u64 0)]⟩
]
noncomputable def X : Cx := ⟨Tryz.prog, lay, 137, [0, 1, 115], [26, 29, 47, 49, 118, 119, 120, 123, 130], [67, 68, 98], [115], [(117, 53)], false, false⟩
theorem all_cons {α : Type} {p : α → Prop} {r : α} {rs : List α} (h : p r) (hs : ∀ x ∈ rs, p x) : ∀ x ∈ r :: rs, p x := fun x hx => by cases hx with | head => exact h | tail _ h' => exact hs x h'
theorem cmp_ok {f : FuncId} {fn : Func} (h : Tryz.prog.funcs[f]? = some fn) (h1 : (fn.name == "runtime.NumGoroutine") = false) (h2 : fn.body.isNone = true) (h3 : (Extern.findNext fn).isNone = true) (h4 : Extern.find fn = some Extern.BytealgCompare.compare) : CmpOk Tryz.prog f := by
  intro a b w
  have h5 : Extern.findNext fn = none := by simpa using h3
  have h6 : ¬ fn.name = "runtime.NumGoroutine" := by simpa using h1
  have h7 : fn.body = none := by simpa using h2
  unfold callFunc
  simp [h, h5, h4, h6, h7]
theorem zeroCells_size (cs : Array Value) (n : Nat) : (Builtin.zeroCells cs n).size = n * cs.size := by
  unfold Builtin.zeroCells
  induction n with
  | zero => simp
  | succ n ih => simp_all [List.replicate_succ, Nat.succ_mul, Nat.add_comm]
theorem grow_ok {P : Program} {ρ : Go.Shelf.Ren} (L : Go.Proofs.Lays8.n4 P ρ) : GrowOk P (ρ.f 4) (ρ.t 25) := by
  intro n w
  refine ⟨fun h => ?_, fun i z hi hz hs hzc hn hb h6 => ?_⟩
  · subst h
    exact Any8.slices_Grow_room L none 0 0 0 w (Nat.le_refl _) (by omega) (by omega) (Nat.le_refl _)
  · refine (Any8.slices_Grow_grow L i z hi hz hs none 0 0 n [] w (Nat.le_refl _) (by omega) (by simpa using hb) (by omega) (by simp) (fun _ => rfl) (fun a h => by cases h)).mono ?_
    rintro e w' ⟨rfl, rfl⟩
    rw [show 0 + n = n by omega]
    refine ⟨grownCap w n 0 (ρ.t 25), _, rfl, rfl, ?_, grownCap_le_maxLen w n 0 _ (by unfold maxLen; omega)⟩
    have hge := grownCap_ge w n 0 (ρ.t 25)
    simp only [Array.size_append, zeroCells_size, hzc, List.size_toArray, List.length_nil, Nat.zero_add, Nat.sub_zero]
    rw [← Nat.add_mul, show n + (grownCap w n 0 (ρ.t 25) - n) = grownCap w n 0 (ρ.t 25) by omega]
theorem X_ok : X.Ok := by
  refine ⟨?_, by kernel_rfl, by kernel_rfl, by kernel_rfl, by kernel_rfl, ?_, ?_⟩
  · show ∀ r ∈ lay, RowOk Tryz.prog r
    unfold lay
    repeat (refine all_cons ⟨by kernel_rfl, by kernel_rfl⟩ ?_)
    intro r hr; cases hr
  · show ∀ f ∈ [115], CmpOk Tryz.prog f
    refine all_cons (cmp_ok Tryz.func115 rfl rfl rfl rfl) ?_
    intro f hf; cases hf
  · show ∀ p ∈ ([(117, 53)] : List (Nat × Nat)), GrowOk Tryz.prog p.1 p.2
    refine all_cons (grow_ok Tryz.laysGrow117) ?_
    intro f hf; cases hf
end Go.Proofs.Ve

/- What modes and spans come to: contracts. -/
set_option maxRecDepth 100000
set_option maxHeartbeats 4000000
set_option linter.all false
namespace Go.Proofs.Ve
open Go
theorem flat_nil : FlatN [] := fun r hr => by cases hr
structure Span where
  t : Int
  lo : List UInt8
  hi : List UInt8
  op : Bool
structure Lock where
  owner : Int
  whole : Bool
  span : Span
  mode : Int
def encB (b : List UInt8) : DV := .sl (b.map fun x => [.int .u8 x.toNat])
def cSpan (s : Span) : List DV := [.int .i64 s.t, encB s.lo, encB s.hi, .bool s.op]
def cLock (x : Lock) : List DV := [.int .i64 x.owner, .bool x.whole, .int .i64 x.span.t, encB x.span.lo, encB x.span.hi, .bool x.span.op, .int .i64 x.mode]
def pSpan (s : Span) : PV := .agg [.d (.int .i64 s.t), .d (encB s.lo), .d (encB s.hi), .d (.bool s.op)]
def pLock (x : Lock) : PV := .agg [.d (.int .i64 x.owner), .d (.bool x.whole), .d (.int .i64 x.span.t), .d (encB x.span.lo), .d (encB x.span.hi), .d (.bool x.span.op), .d (.int .i64 x.mode)]
def toBA (b : List UInt8) : ByteArray := ⟨b.toArray⟩
def cmpB (a b : List UInt8) : Int := Extern.BytealgCompare.cmp ⟨a.toArray⟩ ⟨b.toArray⟩
def ltB (a b : List UInt8) : Bool := Op.bytesLess (toBA a).toList (toBA b).toList
def eqB (a b : List UInt8) : Bool := (toBA a).toList == (toBA b).toList

/-! ### modes -/
def mIs (m : Int) : Bool := decide (m ≥ 1) && decide (m ≤ 5)
theorem c94 (m : Int) (H : List (List Blk)) : CallEq X H 106 [.d (.int .i64 m)] (.d (.bool (mIs m))) [] := by
  unfold mIs
  refine callEq_of_body X_ok rfl Tryz.func106 rfl ?_
  conv => whnf
  repeat' (first
    | (refine And.intro (fun h_ => ?_) (fun h_ => ?_) <;> (conv => whnf))
    | (intro z_ hz_; conv => whnf)
    | (refine ⟨[], rfl, ?_, True.intro⟩; (conv => whnf); (first | done | (simp_all only [refP, Bool.not_true, Bool.not_false, Bool.true_and, Bool.false_and, Bool.and_true, Bool.and_false, Bool.true_or, Bool.false_or, Bool.or_true, Bool.or_false, Bool.not_not, Bool.not_eq_true', Bool.not_eq_false', if_true, if_false, Bool.false_eq_true, Bool.true_eq_false, List.length_map]; done)))
    | fail)
def mCovers (a b : Int) : Bool := if !mIs a || !mIs b then false else a == b || (a == 5 || (b == 1 || (a == 4 && (b == 2 || b == 3))))
theorem c87 (a b : Int) (H : List (List Blk)) : CallEq X H 103 [.d (.int .i64 a), .d (.int .i64 b)] (.d (.bool (mCovers a b))) [] := by
  unfold mCovers
  refine callEq_of_body X_ok rfl Tryz.func103 rfl ?_
  conv => whnf
  repeat' (first
    | (refine And.intro (fun h_ => ?_) (fun h_ => ?_) <;> (conv => whnf))
    | (refine ⟨_, _, c94 _ _, (by first | exact True.intro | exact And.intro rfl flat_nil), ?_⟩; conv => whnf)
    | (intro z_ hz_; conv => whnf)
    | (refine ⟨[], rfl, ?_, True.intro⟩; (conv => whnf); (first | done | (simp_all only [refP, Bool.not_true, Bool.not_false, Bool.true_and, Bool.false_and, Bool.and_true, Bool.and_false, Bool.true_or, Bool.false_or, Bool.or_true, Bool.or_false, Bool.not_not, Bool.not_eq_true', Bool.not_eq_false', if_true, if_false, Bool.false_eq_true, Bool.true_eq_false, List.length_map]; done)))
    | fail)
def rMay (m : Int) : Int := if m == 1 then 1 else if m == 2 then 5 else if m == 3 then 3 else if m == 4 then 7 else if m == 5 then 15 else 0
theorem c91 (m : Int) (H : List (List Blk)) : CallEq X H 92 [.d (.int .i64 m)] (.d (.int .i64 (rMay m))) [] := by
  unfold rMay
  refine callEq_of_body X_ok rfl Tryz.func92 rfl ?_
  conv => whnf
  repeat' (first
    | (refine And.intro (fun h_ => ?_) (fun h_ => ?_) <;> (conv => whnf))
    | (intro z_ hz_; conv => whnf)
    | (refine ⟨[], rfl, ?_, True.intro⟩; (conv => whnf); (first | done | (simp_all only [refP, Bool.not_true, Bool.not_false, Bool.true_and, Bool.false_and, Bool.and_true, Bool.and_false, Bool.true_or, Bool.false_or, Bool.or_true, Bool.or_false, Bool.not_not, Bool.not_eq_true', Bool.not_eq_false', if_true, if_false, Bool.false_eq_true, Bool.true_eq_false, List.length_map]; done)))
    | fail)
def and64 (a b : Int) : Int := IntKind.i64.wrap (BitVec.ofInt IntKind.i64.bits a &&& BitVec.ofInt IntKind.i64.bits b).toNat
def rFits (a b : Int) : Bool :=
  if rMay a == 0 || (rMay b == 0 || (decide (and64 (rMay a) 8 > 0) || decide (and64 (rMay b) 8 > 0))) then false
  else !(decide (and64 (rMay a) 4 > 0) && decide (and64 (rMay b) 2 > 0)) && !(decide (and64 (rMay b) 4 > 0) && decide (and64 (rMay a) 2 > 0))
def rCovers (a b : Int) : Bool := decide (rMay a > 0) && (decide (rMay b > 0) && and64 (rMay a) (rMay b) == rMay b)
/-! ### spans -/
def sCheck (s : Span) : Bool := decide (s.t ≥ 0) && decide (s.t < 4) && decide ((s.lo.length : Int) ≤ 17) && decide ((s.hi.length : Int) ≤ 17) && (!s.op || (s.hi.length : Int) == 0)
theorem c86 (s : Span) (H : List (List Blk)) : CallEq X H 102 [pSpan s] (.d (.bool (sCheck s))) [] := by
  unfold sCheck
  refine callEq_of_body X_ok rfl Tryz.func102 rfl ?_
  conv => whnf
  repeat' (first
    | (refine And.intro (fun h_ => ?_) (fun h_ => ?_) <;> (conv => whnf))
    | (intro z_ hz_; conv => whnf)
    | (refine ⟨[], rfl, ?_, True.intro⟩; (conv => whnf); (first | done | (simp_all only [refP, Bool.not_true, Bool.not_false, Bool.true_and, Bool.false_and, Bool.and_true, Bool.and_false, Bool.true_or, Bool.false_or, Bool.or_true, Bool.or_false, Bool.not_not, Bool.not_eq_true', Bool.not_eq_false', if_true, if_false, Bool.false_eq_true, Bool.true_eq_false, List.length_map]; done)))
    | fail)
def rSCheck (s : Span) : Bool := decide (s.t ≥ 0) && decide (s.t ≤ 3) && decide ((s.lo.length : Int) ≤ 17) && decide ((s.hi.length : Int) ≤ 17) && (!s.op || (s.hi.length : Int) == 0)
theorem c92 (s : Span) (H : List (List Blk)) : CallEq X H 93 [pSpan s] (.d (.bool (rSCheck s))) [] := by
  unfold rSCheck
  refine callEq_of_body X_ok rfl Tryz.func93 rfl ?_
  conv => whnf
  repeat' (first
    | (refine And.intro (fun h_ => ?_) (fun h_ => ?_) <;> (conv => whnf))
    | (intro z_ hz_; conv => whnf)
    | (refine ⟨[], rfl, ?_, True.intro⟩; (conv => whnf); (first | done | (simp_all only [refP, Bool.not_true, Bool.not_false, Bool.true_and, Bool.false_and, Bool.and_true, Bool.and_false, Bool.true_or, Bool.false_or, Bool.or_true, Bool.or_false, Bool.not_not, Bool.not_eq_true', Bool.not_eq_false', if_true, if_false, Bool.false_eq_true, Bool.true_eq_false, List.length_map]; done)))
    | fail)
theorem c96 (a b : List UInt8) (H : List (List Blk)) : CallEq X H 91 [.d (encB a), .d (encB b)] (.d (.int .i64 (cmpB a b))) [] := by
  unfold cmpB
  refine callEq_of_body X_ok rfl Tryz.func91 rfl ?_
  conv => whnf
  repeat' (first
    | (refine And.intro (fun h_ => ?_) (fun h_ => ?_) <;> (conv => whnf))
    | (refine ⟨_, _, rfl, rfl, ?_⟩; conv => whnf)
    | (intro z_ hz_; conv => whnf)
    | (refine ⟨[], rfl, ?_, True.intro⟩; (conv => whnf); (first | done | (simp_all only [refP, Bool.not_true, Bool.not_false, Bool.true_and, Bool.false_and, Bool.and_true, Bool.and_false, Bool.true_or, Bool.false_or, Bool.or_true, Bool.or_false, Bool.not_not, Bool.not_eq_true', Bool.not_eq_false', if_true, if_false, Bool.false_eq_true, Bool.true_eq_false, List.length_map]; done)))
    | fail)
def sEmpty (s : Span) : Bool := !s.op && decide (cmpB s.hi s.lo ≤ 0)
theorem c88 (s : Span) (H : List (List Blk)) : CallEq X H 46 [pSpan s] (.d (.bool (sEmpty s))) [] := by
  unfold sEmpty
  refine callEq_of_body X_ok rfl Tryz.func46 rfl ?_
  conv => whnf
  repeat' (first
    | (refine And.intro (fun h_ => ?_) (fun h_ => ?_) <;> (conv => whnf))
    | (refine ⟨_, _, c96 _ _ _, (by first | exact True.intro | exact And.intro rfl flat_nil), ?_⟩; conv => whnf)
    | (intro z_ hz_; conv => whnf)
    | (refine ⟨[], rfl, ?_, True.intro⟩; (conv => whnf); (first | done | (simp_all only [refP, Bool.not_true, Bool.not_false, Bool.true_and, Bool.false_and, Bool.and_true, Bool.and_false, Bool.true_or, Bool.false_or, Bool.or_true, Bool.or_false, Bool.not_not, Bool.not_eq_true', Bool.not_eq_false', if_true, if_false, Bool.false_eq_true, Bool.true_eq_false, List.length_map]; done)))
    | fail)
def rSEmpty (s : Span) : Bool := !s.op && (ltB s.hi s.lo || eqB s.hi s.lo)
theorem c93 (s : Span) (H : List (List Blk)) : CallEq X H 50 [pSpan s] (.d (.bool (rSEmpty s))) [] := by
  unfold rSEmpty ltB eqB toBA
  refine callEq_of_body X_ok rfl Tryz.func50 rfl ?_
  conv => whnf
  repeat' (first
    | (refine And.intro (fun h_ => ?_) (fun h_ => ?_) <;> (conv => whnf))
    | (refine ⟨_, rfl, ?_⟩; conv => whnf)
    | (intro z_ hz_; conv => whnf)
    | (refine ⟨[], rfl, ?_, True.intro⟩; (conv => whnf); (first | done | (simp_all only [refP, Bool.not_true, Bool.not_false, Bool.true_and, Bool.false_and, Bool.and_true, Bool.and_false, Bool.true_or, Bool.false_or, Bool.or_true, Bool.or_false, Bool.not_not, Bool.not_eq_true', Bool.not_eq_false', if_true, if_false, Bool.false_eq_true, Bool.true_eq_false, List.length_map]; done)))
    | fail)
def sIn (s : Span) (t : Int) (k : List UInt8) : Bool := s.t == t && decide (cmpB s.lo k ≤ 0) && (s.op || decide (cmpB k s.hi < 0))
theorem c100 (s : Span) (t : Int) (k : List UInt8) (H : List (List Blk)) : CallEq X H 111 [pSpan s, .d (.int .i64 t), .d (encB k)] (.d (.bool (sIn s t k))) [] := by
  unfold sIn
  refine callEq_of_body X_ok rfl Tryz.func111 rfl ?_
  conv => whnf
  repeat' (first
    | (refine And.intro (fun h_ => ?_) (fun h_ => ?_) <;> (conv => whnf))
    | (refine ⟨_, _, c96 _ _ _, (by first | exact True.intro | exact And.intro rfl flat_nil), ?_⟩; conv => whnf)
    | (intro z_ hz_; conv => whnf)
    | (refine ⟨[], rfl, ?_, True.intro⟩; (conv => whnf); (first | done | (simp_all only [refP, Bool.not_true, Bool.not_false, Bool.true_and, Bool.false_and, Bool.and_true, Bool.and_false, Bool.true_or, Bool.false_or, Bool.or_true, Bool.or_false, Bool.not_not, Bool.not_eq_true', Bool.not_eq_false', if_true, if_false, Bool.false_eq_true, Bool.true_eq_false, List.length_map]; done)))
    | fail)
def rSIn (s : Span) (t : Int) (k : List UInt8) : Bool := s.t == t && !ltB k s.lo && (s.op || ltB k s.hi)
theorem c101 (s : Span) (t : Int) (k : List UInt8) (H : List (List Blk)) : CallEq X H 112 [pSpan s, .d (.int .i64 t), .d (encB k)] (.d (.bool (rSIn s t k))) [] := by
  unfold rSIn ltB toBA
  refine callEq_of_body X_ok rfl Tryz.func112 rfl ?_
  conv => whnf
  repeat' (first
    | (refine And.intro (fun h_ => ?_) (fun h_ => ?_) <;> (conv => whnf))
    | (refine ⟨_, rfl, ?_⟩; conv => whnf)
    | (intro z_ hz_; conv => whnf)
    | (refine ⟨[], rfl, ?_, True.intro⟩; (conv => whnf); (first | done | (simp_all only [refP, Bool.not_true, Bool.not_false, Bool.true_and, Bool.false_and, Bool.and_true, Bool.and_false, Bool.true_or, Bool.false_or, Bool.or_true, Bool.or_false, Bool.not_not, Bool.not_eq_true', Bool.not_eq_false', if_true, if_false, Bool.false_eq_true, Bool.true_eq_false, List.length_map]; done)))
    | fail)
end Go.Proofs.Ve

/- Loops of the library: contracts. -/
set_option maxRecDepth 100000
set_option linter.all false
namespace Go.Proofs.Ve
open Go
theorem loopV_of {body : (Exit → List PV → List Blk → Prop) → List PV → List Blk → Prop} {K : Exit → List PV → List Blk → Prop} {tm : List PV} {top : List Blk} {ι : Type} (S : ι → LS) (I : ι → Prop) (μ : ι → Nat) (i0 : ι) (s0 : List Nat)
    (hI : I i0) (h0 : Ref s0 tm top (S i0).tm (S i0).top) (h : ∀ i, I i → body (fun e tm' top' => match e with | .normal => ∃ i' s, I i' ∧ μ i' < μ i ∧ Ref s tm' top' (S i').tm (S i').top | e => K e tm' top') (S i).tm (S i).top) : LoopV body K tm top := by
  unfold LoopV; exact ⟨ι, S, I, μ, ⟨i0, s0, hI, h0⟩, h⟩
def idxOf {α : Type} (p : α → Bool) : List α → Int → Int
  | [], _ => -1
  | x :: xs, k => bif p x then k else idxOf p xs (k + 1)
theorem idxOf_step {α : Type} {p : α → Bool} {l : List α} {k : Nat} {x : α} (h : l[k]? = some x) : idxOf p (l.drop k) k = bif p x then (k : Int) else idxOf p (l.drop (k + 1)) (k + 1 : Nat) := by
  have hk := (List.getElem?_eq_some_iff.1 h).1
  rw [List.drop_eq_getElem_cons hk]
  have : l[k] = x := (List.getElem?_eq_some_iff.1 h).2
  simp [idxOf, this]
theorem wrap_small {k : Int} (h0 : 0 ≤ k) (h1 : k < 9223372036854775808) : IntKind.i64.wrap k = k := by rw [IntKind.wrap_i64]; omega

theorem c116 (p : Span → Bool) (l0 i0 l1 i1 : Nat) (xs : List Span) (H : List (List Blk)) (hlen : xs.length < 1000000) (hp : ∀ x T, CallEq X (T :: H) 110 [pSpan x, .ptr (l0 + 2) i0 0, .ptr (l1 + 2) i1 0] (.d (.bool (p x))) []) :
    CallEq X H 129 [.d (.sl (xs.map cSpan)), .func (.func 110) [] [.ptr (l0 + 1) i0 0, .ptr (l1 + 1) i1 0]] (.d (.int .i64 (idxOf p xs 0))) [] := by
  refine callEq_of_body X_ok rfl Tryz.func129 rfl ?_
  conv => whnf
  refine loopV_of (fun k : Nat => ⟨[.d (.sl (xs.map cSpan)), .func (.func 110) [] [.ptr (l0 + 1) i0 0, .ptr (l1 + 1) i1 0], .any, .any, .any, .any, .any, .d (.int .i64 (xs.map cSpan).length), .d (.int .i64 k), .any, .any, .any, .any, .any, .any, .any, .any, .any, .any], []⟩) (fun k => k ≤ xs.length ∧ idxOf p xs 0 = idxOf p (xs.drop k) k) (fun k => xs.length - k) 0 [] ⟨Nat.zero_le _, by simp⟩ ?_ ?_
  · refine And.intro rfl (And.intro ?_ True.intro)
    repeat' (first | exact True.intro | exact rfl | refine And.intro ?_ ?_)
  · rintro k ⟨hk, hidx⟩
    conv => whnf
    refine And.intro (fun h_ => ?_) (fun h_ => ?_)
    · conv => whnf
      have hk' : k < xs.length := by simpa using h_
      obtain ⟨x, hx⟩ : ∃ x, xs[k]? = some x := ⟨_, List.getElem?_eq_getElem hk'⟩
      have hst := idxOf_step (p := p) hx
      refine ⟨by omega, cSpan x, by simp [hx], rfl, ?_⟩
      conv => whnf
      refine ⟨_, _, hp _ _, True.intro, ?_⟩
      conv => whnf
      refine And.intro (fun h1 => ?_) (fun h1 => ?_)
      · conv => whnf
        refine ⟨[], rfl, ?_, True.intro⟩
        show DV.int .i64 (k : Int) = .int .i64 (idxOf p xs 0)
        rw [hidx, hst, h1]; rfl
      · conv => whnf
        intro z hz
        conv => whnf
        rw [wrap_small (by omega) (by omega)] at hz
        subst hz
        refine ⟨k + 1, [], ⟨by omega, ?_⟩, by omega, And.intro rfl (And.intro ?_ True.intro)⟩
        · rw [hidx, hst, h1]; rfl
        · repeat' (first | exact True.intro | exact rfl | refine And.intro ?_ ?_)
    · conv => whnf
      have hk' : k = xs.length := by simp at h_; omega
      refine ⟨[], rfl, ?_, True.intro⟩
      show DV.int .i64 (-1) = .int .i64 (idxOf p xs 0)
      rw [hidx, hk', List.drop_length]; rfl
theorem idxOf_ge {α : Type} (p : α → Bool) : ∀ (l : List α) (k : Int), 0 ≤ k → decide (idxOf p l k ≥ 0) = l.any p
  | [], k, _ => rfl
  | x :: xs, k, hk => by
    have ih := idxOf_ge p xs (k + 1) (by omega)
    cases h : p x with
    | true => rw [idxOf, h, List.any_cons, h]; simpa using hk
    | false => rw [idxOf, h, List.any_cons, h]; exact ih
theorem c98 (p : Span → Bool) (l0 i0 l1 i1 : Nat) (xs : List Span) (H : List (List Blk)) (hlen : xs.length < 1000000) (hp : ∀ x T T', CallEq X (T :: T' :: H) 110 [pSpan x, .ptr (l0 + 3) i0 0, .ptr (l1 + 3) i1 0] (.d (.bool (p x))) []) :
    CallEq X H 109 [.d (.sl (xs.map cSpan)), .func (.func 110) [] [.ptr (l0 + 1) i0 0, .ptr (l1 + 1) i1 0]] (.d (.bool (xs.any p))) [] := by
  rw [← idxOf_ge p xs 0 (Int.le_refl _)]
  refine callEq_of_body X_ok rfl Tryz.func109 rfl ?_
  conv => whnf
  repeat' (first
    | (refine And.intro (fun h_ => ?_) (fun h_ => ?_) <;> (conv => whnf))
    | (refine ⟨_, _, c116 p _ _ _ _ xs _ hlen (fun x T => hp x T _), (by first | exact True.intro | exact And.intro rfl flat_nil), ?_⟩; conv => whnf)
    | (intro z_ hz_; conv => whnf)
    | (refine ⟨[], rfl, ?_, True.intro⟩; (conv => whnf); (first | done | (simp_all only [refP, Bool.not_true, Bool.not_false, Bool.true_and, Bool.false_and, Bool.and_true, Bool.and_false, Bool.true_or, Bool.false_or, Bool.or_true, Bool.or_false, Bool.not_not, Bool.not_eq_true', Bool.not_eq_false', if_true, if_false, Bool.false_eq_true, Bool.true_eq_false, List.length_map]; done)))
    | fail)
/-! ### two spans -/
theorem c99 (a x : Span) (k : List UInt8) (T1 T2 T3 : List Blk) (B1 : Blk) (rest : List Blk) (H : List (List Blk)) :
    CallEq X (T1 :: T2 :: T3 :: (.box [.d (.int .i64 a.t), .d (encB a.lo), .d (encB a.hi), .d (.bool a.op)] :: B1 :: .box [.d (encB k)] :: rest) :: H) 110 [pSpan x, .ptr 4 0 0, .ptr 4 2 0] (.d (.bool (!sIn x a.t k))) [] := by
  refine callEq_of_body X_ok rfl Tryz.func110 rfl ?_
  conv => whnf
  repeat' (first
    | (refine And.intro (fun h_ => ?_) (fun h_ => ?_) <;> (conv => whnf))
    | (refine ⟨_, _, c100 _ _ _ _, (by first | exact True.intro | exact And.intro rfl flat_nil), ?_⟩; conv => whnf)
    | (intro z_ hz_; conv => whnf)
    | (refine ⟨[], rfl, ?_, True.intro⟩; (conv => whnf); (first | done | (simp_all only [refP, Bool.not_true, Bool.not_false, Bool.true_and, Bool.false_and, Bool.and_true, Bool.and_false, Bool.true_or, Bool.false_or, Bool.or_true, Bool.or_false, Bool.not_not, Bool.not_eq_true', Bool.not_eq_false', if_true, if_false, Bool.false_eq_true, Bool.true_eq_false, List.length_map]; done)))
    | fail)
def sMeets (a b : Span) : Bool :=
  let k := if decide (cmpB a.lo b.lo < 0) then b.lo else a.lo
  !([a, b].any fun x => !sIn x a.t k)
theorem c97 (a b : Span) (k : List UInt8) (B1 : Blk) (rest : List Blk) (H : List (List Blk)) :
    CallEq X ((.box [.d (.int .i64 a.t), .d (encB a.lo), .d (encB a.hi), .d (.bool a.op)] :: B1 :: .box [.d (encB k)] :: rest) :: H) 108 [.d (.sl ([a, b].map cSpan)), .ptr 1 0 0, .ptr 1 2 0] (.d (.bool (!([a, b].any fun x => !sIn x a.t k)))) [] := by
  refine callEq_of_body X_ok rfl Tryz.func108 rfl ?_
  conv => whnf
  repeat' (first
    | (refine And.intro (fun h_ => ?_) (fun h_ => ?_) <;> (conv => whnf))
    | (refine ⟨_, _, c98 (fun x => !sIn x a.t k) 1 0 1 2 [a, b] _ (by simp) (fun x T T' => c99 a x k _ _ _ _ _ _), (by first | exact True.intro | exact And.intro rfl flat_nil), ?_⟩; conv => whnf)
    | (intro z_ hz_; conv => whnf)
    | (refine ⟨[], rfl, ?_, True.intro⟩; (conv => whnf); (first | done | (simp_all only [refP, Bool.not_true, Bool.not_false, Bool.true_and, Bool.false_and, Bool.and_true, Bool.and_false, Bool.true_or, Bool.false_or, Bool.or_true, Bool.or_false, Bool.not_not, Bool.not_eq_true', Bool.not_eq_false', if_true, if_false, Bool.false_eq_true, Bool.true_eq_false, List.length_map]; done)))
    | fail)
theorem c57 (a b : Span) (H : List (List Blk)) : CallEq X H 80 [pSpan a, pSpan b] (.d (.bool (sMeets a b))) [] := by
  unfold sMeets
  refine callEq_of_body X_ok rfl Tryz.func80 rfl ?_
  conv => whnf
  repeat' (first
    | (refine And.intro (fun h_ => ?_) (fun h_ => ?_) <;> (conv => whnf))
    | (refine ⟨_, _, c96 _ _ _, (by first | exact True.intro | exact And.intro rfl flat_nil), ?_⟩; conv => whnf)
    | (refine ⟨_, _, c97 a b _ _ _ _, (by first | exact True.intro | exact And.intro rfl flat_nil), ?_⟩; conv => whnf)
    | (intro z_ hz_; conv => whnf)
    | (refine ⟨[], rfl, ?_, True.intro⟩; (conv => whnf); (first | done | (simp_all only [refP, Bool.not_true, Bool.not_false, Bool.true_and, Bool.false_and, Bool.and_true, Bool.and_false, Bool.true_or, Bool.false_or, Bool.or_true, Bool.or_false, Bool.not_not, Bool.not_eq_true', Bool.not_eq_false', if_true, if_false, Bool.false_eq_true, Bool.true_eq_false, List.length_map]; done)))
    | fail)
def rMeets (a b : Span) : Bool := a.t == b.t && ((rSIn a b.t b.lo && rSIn b b.t b.lo) || (rSIn b a.t a.lo && rSIn a a.t a.lo))
theorem c59 (a b : Span) (H : List (List Blk)) : CallEq X H 83 [pSpan a, pSpan b] (.d (.bool (rMeets a b))) [] := by
  unfold rMeets
  refine callEq_of_body X_ok rfl Tryz.func83 rfl ?_
  conv => whnf
  repeat' (first
    | (refine And.intro (fun h_ => ?_) (fun h_ => ?_) <;> (conv => whnf))
    | (refine ⟨_, _, c101 _ _ _ _, (by first | exact True.intro | exact And.intro rfl flat_nil), ?_⟩; conv => whnf)
    | (intro z_ hz_; conv => whnf)
    | (refine ⟨[], rfl, ?_, True.intro⟩; (conv => whnf); (first | done | (simp_all only [refP, Bool.not_true, Bool.not_false, Bool.true_and, Bool.false_and, Bool.and_true, Bool.and_false, Bool.true_or, Bool.false_or, Bool.or_true, Bool.or_false, Bool.not_not, Bool.not_eq_true', Bool.not_eq_false', if_true, if_false, Bool.false_eq_true, Bool.true_eq_false, List.length_map]; done)))
    | fail)
end Go.Proofs.Ve

/- Locks: may one be, do two clash. -/
set_option maxRecDepth 100000
set_option linter.all false
namespace Go.Proofs.Ve
open Go
theorem c58 (a b : Int) (H : List (List Blk)) : CallEq X H 82 [.d (.int .i64 a), .d (.int .i64 b)] (.d (.bool (rFits a b))) [] := by
  unfold rFits and64
  refine callEq_of_body X_ok rfl Tryz.func82 rfl ?_
  conv => whnf
  repeat' (first
    | (refine And.intro (fun h_ => ?_) (fun h_ => ?_) <;> (conv => whnf))
    | (refine ⟨_, _, c91 _ _, (by first | exact True.intro | exact And.intro rfl flat_nil), ?_⟩; conv => whnf)
    | (intro z_ hz_; conv => whnf)
    | (refine ⟨[], rfl, ?_, True.intro⟩; (conv => whnf); (first | done | (simp_all only [refP, Bool.not_true, Bool.not_false, Bool.true_and, Bool.false_and, Bool.and_true, Bool.and_false, Bool.true_or, Bool.false_or, Bool.or_true, Bool.or_false, Bool.not_not, Bool.not_eq_true', Bool.not_eq_false', if_true, if_false, Bool.false_eq_true, Bool.true_eq_false, List.length_map]; done)))
    | fail)
def rLMay (x : Lock) : Bool :=
  if decide (x.owner < 0) || decide (x.owner > 3) then false
  else if x.whole then (((x.span.lo.length : Int) == 0 && ((x.span.hi.length : Int) == 0 && !x.span.op)) && decide (x.span.t ≥ 0)) && decide (x.span.t ≤ 3) && decide (rMay x.mode > 0)
  else (rSCheck x.span && !rSEmpty x.span) && (x.mode == 3 || x.mode == 5)
theorem c54 (x : Lock) (H : List (List Blk)) : CallEq X H 51 [pLock x] (.d (.bool (rLMay x))) [] := by
  unfold rLMay
  refine callEq_of_body X_ok rfl Tryz.func51 rfl ?_
  conv => whnf
  repeat' (first
    | (refine And.intro (fun h_ => ?_) (fun h_ => ?_) <;> (conv => whnf))
    | (refine ⟨_, _, c91 _ _, (by first | exact True.intro | exact And.intro rfl flat_nil), ?_⟩; conv => whnf)
    | (refine ⟨_, _, c92 x.span _, (by first | exact True.intro | exact And.intro rfl flat_nil), ?_⟩; conv => whnf)
    | (refine ⟨_, _, c93 x.span _, (by first | exact True.intro | exact And.intro rfl flat_nil), ?_⟩; conv => whnf)
    | (intro z_ hz_; conv => whnf)
    | (refine ⟨[], rfl, ?_, True.intro⟩; (conv => whnf); (first | done | (simp_all only [refP, Bool.not_true, Bool.not_false, Bool.true_and, Bool.false_and, Bool.and_true, Bool.and_false, Bool.true_or, Bool.false_or, Bool.or_true, Bool.or_false, Bool.not_not, Bool.not_eq_true', Bool.not_eq_false', if_true, if_false, Bool.false_eq_true, Bool.true_eq_false, List.length_map]; done)))
    | fail)
def lMay (x : Lock) : Bool :=
  if decide (x.owner < 0) || (decide (x.owner ≥ 4) || !sCheck x.span) then false
  else if x.whole then ((x.span.lo.length : Int) == 0 && ((x.span.hi.length : Int) == 0 && !x.span.op)) && mCovers x.mode x.mode
  else !sEmpty x.span && (x.mode == 3 || x.mode == 5)
theorem c50 (x : Lock) (H : List (List Blk)) : CallEq X H 75 [pLock x] (.d (.bool (lMay x))) [] := by
  unfold lMay
  refine callEq_of_body X_ok rfl Tryz.func75 rfl ?_
  conv => whnf
  repeat' (first
    | (refine And.intro (fun h_ => ?_) (fun h_ => ?_) <;> (conv => whnf))
    | (refine ⟨_, _, c86 x.span _, (by first | exact True.intro | exact And.intro rfl flat_nil), ?_⟩; conv => whnf)
    | (refine ⟨_, _, c87 _ _ _, (by first | exact True.intro | exact And.intro rfl flat_nil), ?_⟩; conv => whnf)
    | (refine ⟨_, _, c88 x.span _, (by first | exact True.intro | exact And.intro rfl flat_nil), ?_⟩; conv => whnf)
    | (intro z_ hz_; conv => whnf)
    | (refine ⟨[], rfl, ?_, True.intro⟩; (conv => whnf); (first | done | (simp_all only [refP, Bool.not_true, Bool.not_false, Bool.true_and, Bool.false_and, Bool.and_true, Bool.and_false, Bool.true_or, Bool.false_or, Bool.or_true, Bool.or_false, Bool.not_not, Bool.not_eq_true', Bool.not_eq_false', if_true, if_false, Bool.false_eq_true, Bool.true_eq_false, List.length_map]; done)))
    | fail)
def rClash (a b : Lock) : Bool :=
  if a.owner == b.owner || (a.span.t != b.span.t || !(a.whole == b.whole)) then false
  else if a.whole then !rFits a.mode b.mode
  else rMeets a.span b.span && (a.mode == 5 || b.mode == 5)
theorem c22 (a b : Lock) (H : List (List Blk)) : CallEq X H 39 [pLock a, pLock b] (.d (.bool (rClash a b))) [] := by
  unfold rClash
  refine callEq_of_body X_ok rfl Tryz.func39 rfl ?_
  conv => whnf
  repeat' (first
    | (refine And.intro (fun h_ => ?_) (fun h_ => ?_) <;> (conv => whnf))
    | (refine ⟨_, _, c58 _ _ _, (by first | exact True.intro | exact And.intro rfl flat_nil), ?_⟩; conv => whnf)
    | (refine ⟨_, _, c59 a.span b.span _, (by first | exact True.intro | exact And.intro rfl flat_nil), ?_⟩; conv => whnf)
    | (intro z_ hz_; conv => whnf)
    | (refine ⟨[], rfl, ?_, True.intro⟩; (conv => whnf); (first | done | (simp_all only [refP, Bool.not_true, Bool.not_false, Bool.true_and, Bool.false_and, Bool.and_true, Bool.and_false, Bool.true_or, Bool.false_or, Bool.or_true, Bool.or_false, Bool.not_not, Bool.not_eq_true', Bool.not_eq_false', if_true, if_false, Bool.false_eq_true, Bool.true_eq_false, List.length_map]; done)))
    | fail)
end Go.Proofs.Ve

/- Modes that fit; locks that clash. -/
set_option maxRecDepth 100000
set_option linter.all false
namespace Go.Proofs.Ve
open Go
theorem mIs_cases {m : Int} (h : mIs m = true) : m = 1 ∨ m = 2 ∨ m = 3 ∨ m = 4 ∨ m = 5 := by
  unfold mIs at h
  simp at h
  omega
def mTable : List PV := [.kb false, .kb false, .kb false, .kb false, .kb false, .kb false, .kb false, .kb true, .kb true, .kb true, .kb true, .kb false, .kb false, .kb true, .kb true, .kb false, .kb false, .kb false, .kb false, .kb true, .kb false, .kb true, .kb false, .kb false, .kb false, .kb true, .kb false, .kb false, .kb false, .kb false, .kb false, .kb false, .kb false, .kb false, .kb false, .kb false]
theorem c95 (H : List (List Blk)) : CallEq X H 107 [] (.agg mTable) [] := by
  refine callEq_of_body X_ok rfl Tryz.func107 rfl ?_
  conv => whnf
  exact ⟨[], rfl, (by (repeat' (first | exact True.intro | exact rfl | refine And.intro ?_ ?_))), True.intro⟩
def mTab (a b : Int) : Bool := (a == 1 && (b == 1 || b == 2 || b == 3 || b == 4)) || (a == 2 && (b == 1 || b == 2)) || (a == 3 && (b == 1 || b == 3)) || (a == 4 && b == 1)
def mFits (a b : Int) : Bool := mIs a && (mIs b && mTab a b)
theorem c94t (m : Int) (h : mIs m = true) (H : List (List Blk)) : CallEq X H 106 [.d (.int .i64 m)] (.d (.bool true)) [] := h ▸ c94 m H
theorem c56 (a b : Int) (H : List (List Blk)) : CallEq X H 79 [.d (.int .i64 a), .d (.int .i64 b)] (.d (.bool (mFits a b))) [] := by
  by_cases h : mIs a = true ∧ mIs b = true
  · obtain ⟨ha, hb⟩ := h
    rcases mIs_cases ha with rfl | rfl | rfl | rfl | rfl <;> rcases mIs_cases hb with rfl | rfl | rfl | rfl | rfl <;>
    ( refine callEq_of_body X_ok rfl Tryz.func79 rfl ?_
      conv => whnf
      refine ⟨_, _, c94t _ ha _, True.intro, ?_⟩
      conv => whnf
      refine And.intro (fun _ => ?_) (fun h_ => by cases h_)
      conv => whnf
      refine ⟨_, _, c94t _ hb _, True.intro, ?_⟩
      conv => whnf
      refine And.intro (fun _ => ?_) (fun h_ => by cases h_)
      conv => whnf
      refine ⟨_, _, c95 _, True.intro, ?_⟩
      conv => whnf
      refine ⟨by decide, by decide, ?_⟩
      conv => whnf
      refine ⟨by decide, by decide, ?_⟩
      conv => whnf
      exact ⟨[], rfl, congrArg DV.bool (by decide), True.intro⟩ )
  · unfold mFits
    refine callEq_of_body X_ok rfl Tryz.func79 rfl ?_
    conv => whnf
    refine ⟨_, _, c94 _ _, True.intro, ?_⟩
    conv => whnf
    refine And.intro (fun h1 => ?_) (fun h1 => ?_) <;> (conv => whnf)
    · refine ⟨_, _, c94 _ _, True.intro, ?_⟩
      conv => whnf
      refine And.intro (fun h2 => ?_) (fun h2 => ?_) <;> (conv => whnf)
      · exact absurd ⟨h1, h2⟩ h
      · refine ⟨[], rfl, ?_, True.intro⟩
        conv => whnf
        simp only [h1, h2, Bool.not_true, Bool.true_and, Bool.false_and]
    · refine ⟨[], rfl, ?_, True.intro⟩
      conv => whnf
      simp only [h1, Bool.not_true, Bool.false_and]
def lClash (a b : Lock) : Bool :=
  if a.owner == b.owner || (a.span.t != b.span.t || !(a.whole == b.whole)) then false
  else if a.whole then !mFits a.mode b.mode
  else sMeets a.span b.span && (a.mode == 5 || b.mode == 5)
theorem c21 (a b : Lock) (H : List (List Blk)) : CallEq X H 36 [pLock a, pLock b] (.d (.bool (lClash a b))) [] := by
  unfold lClash
  refine callEq_of_body X_ok rfl Tryz.func36 rfl ?_
  conv => whnf
  repeat' (first
    | (refine And.intro (fun h_ => ?_) (fun h_ => ?_) <;> (conv => whnf))
    | (refine ⟨_, _, c56 _ _ _, (by first | exact True.intro | exact And.intro rfl flat_nil), ?_⟩; conv => whnf)
    | (refine ⟨_, _, c57 a.span b.span _, (by first | exact True.intro | exact And.intro rfl flat_nil), ?_⟩; conv => whnf)
    | (intro z_ hz_; conv => whnf)
    | (refine ⟨[], rfl, ?_, True.intro⟩; (conv => whnf); (first | done | (simp_all only [refP, Bool.not_true, Bool.not_false, Bool.true_and, Bool.false_and, Bool.and_true, Bool.and_false, Bool.true_or, Bool.false_or, Bool.or_true, Bool.or_false, Bool.not_not, Bool.not_eq_true', Bool.not_eq_false', if_true, if_false, Bool.false_eq_true, Bool.true_eq_false, List.length_map]; done)))
    | fail)
end Go.Proofs.Ve

/- Locks in lists: contracts. -/
set_option maxRecDepth 100000
set_option linter.all false
namespace Go.Proofs.Ve
open Go
structure Locks where
  held : List Lock
  queue : List Lock
def encLocks (l : List Lock) : DV := .sl (l.map cLock)
def pLocks (l : Locks) : PV := .agg [.d (encLocks l.held), .d (encLocks l.queue)]
def short (x : Lock) : Bool := decide ((x.span.lo.length : Int) ≤ 100) && decide ((x.span.hi.length : Int) ≤ 100)
/-! ### the place of an owner's -/
theorem c83 (x : Lock) (o : Int) (T1 : List Blk) (B0 : Blk) (rest : List Blk) (H : List (List Blk)) : CallEq X (T1 :: (B0 :: .box [.d (.int .i64 o)] :: rest) :: H) 84 [pLock x, .ptr 2 1 0] (.d (.bool (x.owner == o))) [] := by
  refine callEq_of_body X_ok rfl Tryz.func84 rfl ?_
  conv => whnf
  repeat' (first
    | (refine And.intro (fun h_ => ?_) (fun h_ => ?_) <;> (conv => whnf))
    | (intro z_ hz_; conv => whnf)
    | (refine ⟨[], rfl, ?_, True.intro⟩; (conv => whnf); (first | done | (simp_all only [refP, Bool.not_true, Bool.not_false, Bool.true_and, Bool.false_and, Bool.and_true, Bool.and_false, Bool.true_or, Bool.false_or, Bool.or_true, Bool.or_false, Bool.not_not, Bool.not_eq_true', Bool.not_eq_false', if_true, if_false, Bool.false_eq_true, Bool.true_eq_false, List.length_map]; done)))
    | fail)
theorem i83 (p : Lock → Bool) (l0 i0 : Nat) (xs : List Lock) (H : List (List Blk)) (hlen : xs.length < 1000000) (hp : ∀ x, x ∈ xs → ∀ T, CallEq X (T :: H) 84 [pLock x, .ptr (l0 + 2) i0 0] (.d (.bool (p x))) []) :
    CallEq X H 78 [.d (.sl (xs.map cLock)), .func (.func 84) [] [.ptr (l0 + 1) i0 0]] (.d (.int .i64 (idxOf p xs 0))) [] := by
  refine callEq_of_body X_ok rfl Tryz.func78 rfl ?_
  conv => whnf
  refine loopV_of (fun k : Nat => ⟨[.d (.sl (xs.map cLock)), .func (.func 84) [] [.ptr (l0 + 1) i0 0], .any, .any, .any, .any, .any, .d (.int .i64 (xs.map cLock).length), .d (.int .i64 k), .any, .any, .any, .any, .any, .any, .any, .any, .any, .any], []⟩) (fun k => k ≤ xs.length ∧ idxOf p xs 0 = idxOf p (xs.drop k) k) (fun k => xs.length - k) 0 [] ⟨Nat.zero_le _, by simp⟩ ?_ ?_
  · refine And.intro rfl (And.intro ?_ True.intro)
    repeat' (first | exact True.intro | exact rfl | refine And.intro ?_ ?_)
  · rintro k ⟨hk, hidx⟩
    conv => whnf
    refine And.intro (fun h_ => ?_) (fun h_ => ?_)
    · conv => whnf
      have hk' : k < xs.length := by simpa using h_
      obtain ⟨x, hx⟩ : ∃ x, xs[k]? = some x := ⟨_, List.getElem?_eq_getElem hk'⟩
      have hst := idxOf_step (p := p) hx
      refine ⟨by omega, cLock x, by simp [hx], rfl, ?_⟩
      conv => whnf
      refine ⟨_, _, hp x (List.mem_of_getElem? hx) _, True.intro, ?_⟩
      conv => whnf
      refine And.intro (fun h1 => ?_) (fun h1 => ?_)
      · conv => whnf
        refine ⟨[], rfl, ?_, True.intro⟩
        show DV.int .i64 (k : Int) = .int .i64 (idxOf p xs 0)
        rw [hidx, hst, h1]; rfl
      · conv => whnf
        intro z hz
        conv => whnf
        rw [wrap_small (by omega) (by omega)] at hz
        subst hz
        refine ⟨k + 1, [], ⟨by omega, ?_⟩, by omega, And.intro rfl (And.intro ?_ True.intro)⟩
        · rw [hidx, hst, h1]; rfl
        · repeat' (first | exact True.intro | exact rfl | refine And.intro ?_ ?_)
    · conv => whnf
      have hk' : k = xs.length := by simp at h_; omega
      refine ⟨[], rfl, ?_, True.intro⟩
      show DV.int .i64 (-1) = .int .i64 (idxOf p xs 0)
      rw [hidx, hk', List.drop_length]; rfl
def place (l : List Lock) (o : Int) : Int := idxOf (fun x => x.owner == o) l 0
theorem c44 (l : Locks) (o : Int) (hl : l.queue.length < 1000000) (H : List (List Blk)) : CallEq X H 40 [pLocks l, .d (.int .i64 o)] (.d (.int .i64 (place l.queue o))) [] := by
  unfold place
  refine callEq_of_body X_ok rfl Tryz.func40 rfl ?_
  conv => whnf
  repeat' (first
    | (refine And.intro (fun h_ => ?_) (fun h_ => ?_) <;> (conv => whnf))
    | (refine ⟨_, _, i83 (fun x => x.owner == o) 0 1 l.queue _ hl (fun x _ T => c83 x o _ _ _ _), (by first | exact True.intro | exact And.intro rfl flat_nil), ?_⟩; conv => whnf)
    | (intro z_ hz_; conv => whnf)
    | (refine ⟨[], rfl, ?_, True.intro⟩; (conv => whnf); (first | done | (simp_all only [refP, Bool.not_true, Bool.not_false, Bool.true_and, Bool.false_and, Bool.and_true, Bool.and_false, Bool.true_or, Bool.false_or, Bool.or_true, Bool.or_false, Bool.not_not, Bool.not_eq_true', Bool.not_eq_false', if_true, if_false, Bool.false_eq_true, Bool.true_eq_false, List.length_map]; done)))
    | fail)
/-! ### those that may not be -/
theorem c49 (x : Lock) (H : List (List Blk)) : CallEq X H 74 [pLock x] (.d (.bool (!lMay x))) [] := by
  refine callEq_of_body X_ok rfl Tryz.func74 rfl ?_
  conv => whnf
  repeat' (first
    | (refine And.intro (fun h_ => ?_) (fun h_ => ?_) <;> (conv => whnf))
    | (refine ⟨_, _, c50 x _, (by first | exact True.intro | exact And.intro rfl flat_nil), ?_⟩; conv => whnf)
    | (intro z_ hz_; conv => whnf)
    | (refine ⟨[], rfl, ?_, True.intro⟩; (conv => whnf); (first | done | (simp_all only [refP, Bool.not_true, Bool.not_false, Bool.true_and, Bool.false_and, Bool.and_true, Bool.and_false, Bool.true_or, Bool.false_or, Bool.or_true, Bool.or_false, Bool.not_not, Bool.not_eq_true', Bool.not_eq_false', if_true, if_false, Bool.false_eq_true, Bool.true_eq_false, List.length_map]; done)))
    | fail)
theorem i49 (p : Lock → Bool)  (xs : List Lock) (H : List (List Blk)) (hlen : xs.length < 1000000) (hp : ∀ x, x ∈ xs → ∀ T, CallEq X (T :: H) 74 [pLock x] (.d (.bool (p x))) []) :
    CallEq X H 78 [.d (.sl (xs.map cLock)), .func (.func 74) [] []] (.d (.int .i64 (idxOf p xs 0))) [] := by
  refine callEq_of_body X_ok rfl Tryz.func78 rfl ?_
  conv => whnf
  refine loopV_of (fun k : Nat => ⟨[.d (.sl (xs.map cLock)), .func (.func 74) [] [], .any, .any, .any, .any, .any, .d (.int .i64 (xs.map cLock).length), .d (.int .i64 k), .any, .any, .any, .any, .any, .any, .any, .any, .any, .any], []⟩) (fun k => k ≤ xs.length ∧ idxOf p xs 0 = idxOf p (xs.drop k) k) (fun k => xs.length - k) 0 [] ⟨Nat.zero_le _, by simp⟩ ?_ ?_
  · refine And.intro rfl (And.intro ?_ True.intro)
    repeat' (first | exact True.intro | exact rfl | refine And.intro ?_ ?_)
  · rintro k ⟨hk, hidx⟩
    conv => whnf
    refine And.intro (fun h_ => ?_) (fun h_ => ?_)
    · conv => whnf
      have hk' : k < xs.length := by simpa using h_
      obtain ⟨x, hx⟩ : ∃ x, xs[k]? = some x := ⟨_, List.getElem?_eq_getElem hk'⟩
      have hst := idxOf_step (p := p) hx
      refine ⟨by omega, cLock x, by simp [hx], rfl, ?_⟩
      conv => whnf
      refine ⟨_, _, hp x (List.mem_of_getElem? hx) _, True.intro, ?_⟩
      conv => whnf
      refine And.intro (fun h1 => ?_) (fun h1 => ?_)
      · conv => whnf
        refine ⟨[], rfl, ?_, True.intro⟩
        show DV.int .i64 (k : Int) = .int .i64 (idxOf p xs 0)
        rw [hidx, hst, h1]; rfl
      · conv => whnf
        intro z hz
        conv => whnf
        rw [wrap_small (by omega) (by omega)] at hz
        subst hz
        refine ⟨k + 1, [], ⟨by omega, ?_⟩, by omega, And.intro rfl (And.intro ?_ True.intro)⟩
        · rw [hidx, hst, h1]; rfl
        · repeat' (first | exact True.intro | exact rfl | refine And.intro ?_ ?_)
    · conv => whnf
      have hk' : k = xs.length := by simp at h_; omega
      refine ⟨[], rfl, ?_, True.intro⟩
      show DV.int .i64 (-1) = .int .i64 (idxOf p xs 0)
      rw [hidx, hk', List.drop_length]; rfl
theorem c51a (xs : List Lock) (hl : xs.length < 1000000) (H : List (List Blk)) : CallEq X H 33 [.d (encLocks xs), .func (.func 74) [] []] (.d (.bool (xs.any fun x => !lMay x))) [] := by
  rw [← idxOf_ge _ xs 0 (Int.le_refl _)]
  refine callEq_of_body X_ok rfl Tryz.func33 rfl ?_
  conv => whnf
  repeat' (first
    | (refine And.intro (fun h_ => ?_) (fun h_ => ?_) <;> (conv => whnf))
    | (refine ⟨_, _, i49 (fun x => !lMay x) xs _ hl (fun x _ T => c49 x _), (by first | exact True.intro | exact And.intro rfl flat_nil), ?_⟩; conv => whnf)
    | (intro z_ hz_; conv => whnf)
    | (refine ⟨[], rfl, ?_, True.intro⟩; (conv => whnf); (first | done | (simp_all only [refP, Bool.not_true, Bool.not_false, Bool.true_and, Bool.false_and, Bool.and_true, Bool.and_false, Bool.true_or, Bool.false_or, Bool.or_true, Bool.or_false, Bool.not_not, Bool.not_eq_true', Bool.not_eq_false', if_true, if_false, Bool.false_eq_true, Bool.true_eq_false, List.length_map]; done)))
    | fail)
end Go.Proofs.Ve

/- Locks that are weaker, or not single: contracts. -/
set_option maxRecDepth 100000
set_option linter.all false
namespace Go.Proofs.Ve
open Go
def bLock (x : Lock) : Blk := .box [.d (.int .i64 x.owner), .d (.bool x.whole), .d (.int .i64 x.span.t), .d (encB x.span.lo), .d (encB x.span.hi), .d (.bool x.span.op), .d (.int .i64 x.mode)]
def lWeak (x y : Lock) : Bool := x.whole && y.whole && x.owner == y.owner && x.span.t == y.span.t && !mCovers x.mode y.mode
theorem c90 (x y : Lock) (T1 T2 : List Blk) (B0 : Blk) (rest : List Blk) (H : List (List Blk)) : CallEq X (T1 :: T2 :: (B0 :: bLock x :: rest) :: H) 105 [pLock y, .ptr 3 1 0] (.d (.bool (lWeak x y))) [] := by
  unfold lWeak
  refine callEq_of_body X_ok rfl Tryz.func105 rfl ?_
  conv => whnf
  repeat' (first
    | (refine And.intro (fun h_ => ?_) (fun h_ => ?_) <;> (conv => whnf))
    | (refine ⟨_, _, c87 _ _ _, (by first | exact True.intro | exact And.intro rfl flat_nil), ?_⟩; conv => whnf)
    | (intro z_ hz_; conv => whnf)
    | (refine ⟨[], rfl, ?_, True.intro⟩; (conv => whnf); (first | done | (simp_all only [refP, Bool.not_true, Bool.not_false, Bool.true_and, Bool.false_and, Bool.and_true, Bool.and_false, Bool.true_or, Bool.false_or, Bool.or_true, Bool.or_false, Bool.not_not, Bool.not_eq_true', Bool.not_eq_false', if_true, if_false, Bool.false_eq_true, Bool.true_eq_false, List.length_map]; done)))
    | fail)
theorem i90 (p : Lock → Bool) (l0 i0 : Nat) (xs : List Lock) (H : List (List Blk)) (hlen : xs.length < 1000000) (hp : ∀ x, x ∈ xs → ∀ T, CallEq X (T :: H) 105 [pLock x, .ptr (l0 + 2) i0 0] (.d (.bool (p x))) []) :
    CallEq X H 78 [.d (.sl (xs.map cLock)), .func (.func 105) [] [.ptr (l0 + 1) i0 0]] (.d (.int .i64 (idxOf p xs 0))) [] := by
  refine callEq_of_body X_ok rfl Tryz.func78 rfl ?_
  conv => whnf
  refine loopV_of (fun k : Nat => ⟨[.d (.sl (xs.map cLock)), .func (.func 105) [] [.ptr (l0 + 1) i0 0], .any, .any, .any, .any, .any, .d (.int .i64 (xs.map cLock).length), .d (.int .i64 k), .any, .any, .any, .any, .any, .any, .any, .any, .any, .any], []⟩) (fun k => k ≤ xs.length ∧ idxOf p xs 0 = idxOf p (xs.drop k) k) (fun k => xs.length - k) 0 [] ⟨Nat.zero_le _, by simp⟩ ?_ ?_
  · refine And.intro rfl (And.intro ?_ True.intro)
    repeat' (first | exact True.intro | exact rfl | refine And.intro ?_ ?_)
  · rintro k ⟨hk, hidx⟩
    conv => whnf
    refine And.intro (fun h_ => ?_) (fun h_ => ?_)
    · conv => whnf
      have hk' : k < xs.length := by simpa using h_
      obtain ⟨x, hx⟩ : ∃ x, xs[k]? = some x := ⟨_, List.getElem?_eq_getElem hk'⟩
      have hst := idxOf_step (p := p) hx
      refine ⟨by omega, cLock x, by simp [hx], rfl, ?_⟩
      conv => whnf
      refine ⟨_, _, hp x (List.mem_of_getElem? hx) _, True.intro, ?_⟩
      conv => whnf
      refine And.intro (fun h1 => ?_) (fun h1 => ?_)
      · conv => whnf
        refine ⟨[], rfl, ?_, True.intro⟩
        show DV.int .i64 (k : Int) = .int .i64 (idxOf p xs 0)
        rw [hidx, hst, h1]; rfl
      · conv => whnf
        intro z hz
        conv => whnf
        rw [wrap_small (by omega) (by omega)] at hz
        subst hz
        refine ⟨k + 1, [], ⟨by omega, ?_⟩, by omega, And.intro rfl (And.intro ?_ True.intro)⟩
        · rw [hidx, hst, h1]; rfl
        · repeat' (first | exact True.intro | exact rfl | refine And.intro ?_ ?_)
    · conv => whnf
      have hk' : k = xs.length := by simp at h_; omega
      refine ⟨[], rfl, ?_, True.intro⟩
      show DV.int .i64 (-1) = .int .i64 (idxOf p xs 0)
      rw [hidx, hk', List.drop_length]; rfl
theorem c51b (p : Lock → Bool) (l0 i0 : Nat) (xs : List Lock) (hl : xs.length < 1000000) (H : List (List Blk)) (hp : ∀ x, x ∈ xs → ∀ T T', CallEq X (T :: T' :: H) 105 [pLock x, .ptr (l0 + 3) i0 0] (.d (.bool (p x))) []) : CallEq X H 33 [.d (encLocks xs), .func (.func 105) [] [.ptr (l0 + 1) i0 0]] (.d (.bool (xs.any p))) [] := by
  rw [← idxOf_ge _ xs 0 (Int.le_refl _)]
  refine callEq_of_body X_ok rfl Tryz.func33 rfl ?_
  conv => whnf
  repeat' (first
    | (refine And.intro (fun h_ => ?_) (fun h_ => ?_) <;> (conv => whnf))
    | (refine ⟨_, _, i90 p _ _ xs _ hl (fun x hx T => hp x hx T _), (by first | exact True.intro | exact And.intro rfl flat_nil), ?_⟩; conv => whnf)
    | (intro z_ hz_; conv => whnf)
    | (refine ⟨[], rfl, ?_, True.intro⟩; (conv => whnf); (first | done | (simp_all only [refP, Bool.not_true, Bool.not_false, Bool.true_and, Bool.false_and, Bool.and_true, Bool.and_false, Bool.true_or, Bool.false_or, Bool.or_true, Bool.or_false, Bool.not_not, Bool.not_eq_true', Bool.not_eq_false', if_true, if_false, Bool.false_eq_true, Bool.true_eq_false, List.length_map]; done)))
    | fail)
theorem c53 (l : Locks) (x : Lock) (hl : l.held.length < 1000000) (H : List (List Blk)) : CallEq X H 77 [pLocks l, pLock x] (.d (.bool (l.held.any (lWeak x)))) [] := by
  refine callEq_of_body X_ok rfl Tryz.func77 rfl ?_
  conv => whnf
  repeat' (first
    | (refine And.intro (fun h_ => ?_) (fun h_ => ?_) <;> (conv => whnf))
    | (refine ⟨_, _, c51b (lWeak x) 0 1 l.held hl _ (fun y _ T T' => c90 x y _ _ _ _ _), (by first | exact True.intro | exact And.intro rfl flat_nil), ?_⟩; conv => whnf)
    | (intro z_ hz_; conv => whnf)
    | (refine ⟨[], rfl, ?_, True.intro⟩; (conv => whnf); (first | done | (simp_all only [refP, Bool.not_true, Bool.not_false, Bool.true_and, Bool.false_and, Bool.and_true, Bool.and_false, Bool.true_or, Bool.false_or, Bool.or_true, Bool.or_false, Bool.not_not, Bool.not_eq_true', Bool.not_eq_false', if_true, if_false, Bool.false_eq_true, Bool.true_eq_false, List.length_map]; done)))
    | fail)
theorem i53 (p : Lock → Bool) (l : Locks) (xs : List Lock) (H : List (List Blk)) (hlen : xs.length < 1000000) (hp : ∀ x, x ∈ xs → ∀ T, CallEq X (T :: H) 77 [pLocks l, pLock x] (.d (.bool (p x))) []) :
    CallEq X H 78 [.d (.sl (xs.map cLock)), .func (.func 77) [pLocks l] []] (.d (.int .i64 (idxOf p xs 0))) [] := by
  refine callEq_of_body X_ok rfl Tryz.func78 rfl ?_
  conv => whnf
  refine loopV_of (fun k : Nat => ⟨[.d (.sl (xs.map cLock)), .func (.func 77) [pLocks l] [], .any, .any, .any, .any, .any, .d (.int .i64 (xs.map cLock).length), .d (.int .i64 k), .any, .any, .any, .any, .any, .any, .any, .any, .any, .any], []⟩) (fun k => k ≤ xs.length ∧ idxOf p xs 0 = idxOf p (xs.drop k) k) (fun k => xs.length - k) 0 [] ⟨Nat.zero_le _, by simp⟩ ?_ ?_
  · refine And.intro rfl (And.intro ?_ True.intro)
    repeat' (first | exact True.intro | exact rfl | refine And.intro ?_ ?_)
  · rintro k ⟨hk, hidx⟩
    conv => whnf
    refine And.intro (fun h_ => ?_) (fun h_ => ?_)
    · conv => whnf
      have hk' : k < xs.length := by simpa using h_
      obtain ⟨x, hx⟩ : ∃ x, xs[k]? = some x := ⟨_, List.getElem?_eq_getElem hk'⟩
      have hst := idxOf_step (p := p) hx
      refine ⟨by omega, cLock x, by simp [hx], rfl, ?_⟩
      conv => whnf
      refine ⟨_, _, hp x (List.mem_of_getElem? hx) _, True.intro, ?_⟩
      conv => whnf
      refine And.intro (fun h1 => ?_) (fun h1 => ?_)
      · conv => whnf
        refine ⟨[], rfl, ?_, True.intro⟩
        show DV.int .i64 (k : Int) = .int .i64 (idxOf p xs 0)
        rw [hidx, hst, h1]; rfl
      · conv => whnf
        intro z hz
        conv => whnf
        rw [wrap_small (by omega) (by omega)] at hz
        subst hz
        refine ⟨k + 1, [], ⟨by omega, ?_⟩, by omega, And.intro rfl (And.intro ?_ True.intro)⟩
        · rw [hidx, hst, h1]; rfl
        · repeat' (first | exact True.intro | exact rfl | refine And.intro ?_ ?_)
    · conv => whnf
      have hk' : k = xs.length := by simp at h_; omega
      refine ⟨[], rfl, ?_, True.intro⟩
      show DV.int .i64 (-1) = .int .i64 (idxOf p xs 0)
      rw [hidx, hk', List.drop_length]; rfl
theorem c51c (l : Locks) (xs : List Lock) (hl : xs.length < 1000000) (hl' : l.held.length < 1000000) (H : List (List Blk)) : CallEq X H 33 [.d (encLocks xs), .func (.func 77) [pLocks l] []] (.d (.bool (xs.any fun x => l.held.any (lWeak x)))) [] := by
  rw [← idxOf_ge _ xs 0 (Int.le_refl _)]
  refine callEq_of_body X_ok rfl Tryz.func33 rfl ?_
  conv => whnf
  repeat' (first
    | (refine And.intro (fun h_ => ?_) (fun h_ => ?_) <;> (conv => whnf))
    | (refine ⟨_, _, i53 (fun x => l.held.any (lWeak x)) l xs _ hl (fun x _ T => c53 l x hl' _), (by first | exact True.intro | exact And.intro rfl flat_nil), ?_⟩; conv => whnf)
    | (intro z_ hz_; conv => whnf)
    | (refine ⟨[], rfl, ?_, True.intro⟩; (conv => whnf); (first | done | (simp_all only [refP, Bool.not_true, Bool.not_false, Bool.true_and, Bool.false_and, Bool.and_true, Bool.and_false, Bool.true_or, Bool.false_or, Bool.or_true, Bool.or_false, Bool.not_not, Bool.not_eq_true', Bool.not_eq_false', if_true, if_false, Bool.false_eq_true, Bool.true_eq_false, List.length_map]; done)))
    | fail)
def lTwice (x y : Lock) : Bool := lClash x y || (x.whole && y.whole && x.owner == y.owner && x.span.t == y.span.t)
theorem c89 (x y : Lock) (T1 T2 : List Blk) (B0 : Blk) (rest : List Blk) (H : List (List Blk)) : CallEq X (T1 :: T2 :: (B0 :: bLock x :: rest) :: H) 104 [pLock y, .ptr 3 1 0] (.d (.bool (lTwice x y))) [] := by
  unfold lTwice
  refine callEq_of_body X_ok rfl Tryz.func104 rfl ?_
  conv => whnf
  repeat' (first
    | (refine And.intro (fun h_ => ?_) (fun h_ => ?_) <;> (conv => whnf))
    | (refine ⟨_, _, c21 x y _, (by first | exact True.intro | exact And.intro rfl flat_nil), ?_⟩; conv => whnf)
    | (intro z_ hz_; conv => whnf)
    | (refine ⟨[], rfl, ?_, True.intro⟩; (conv => whnf); (first | done | (simp_all only [refP, Bool.not_true, Bool.not_false, Bool.true_and, Bool.false_and, Bool.and_true, Bool.and_false, Bool.true_or, Bool.false_or, Bool.or_true, Bool.or_false, Bool.not_not, Bool.not_eq_true', Bool.not_eq_false', if_true, if_false, Bool.false_eq_true, Bool.true_eq_false, List.length_map]; done)))
    | fail)
theorem i89 (p : Lock → Bool) (l0 i0 : Nat) (xs : List Lock) (H : List (List Blk)) (hlen : xs.length < 1000000) (hp : ∀ x, x ∈ xs → ∀ T, CallEq X (T :: H) 104 [pLock x, .ptr (l0 + 2) i0 0] (.d (.bool (p x))) []) :
    CallEq X H 78 [.d (.sl (xs.map cLock)), .func (.func 104) [] [.ptr (l0 + 1) i0 0]] (.d (.int .i64 (idxOf p xs 0))) [] := by
  refine callEq_of_body X_ok rfl Tryz.func78 rfl ?_
  conv => whnf
  refine loopV_of (fun k : Nat => ⟨[.d (.sl (xs.map cLock)), .func (.func 104) [] [.ptr (l0 + 1) i0 0], .any, .any, .any, .any, .any, .d (.int .i64 (xs.map cLock).length), .d (.int .i64 k), .any, .any, .any, .any, .any, .any, .any, .any, .any, .any], []⟩) (fun k => k ≤ xs.length ∧ idxOf p xs 0 = idxOf p (xs.drop k) k) (fun k => xs.length - k) 0 [] ⟨Nat.zero_le _, by simp⟩ ?_ ?_
  · refine And.intro rfl (And.intro ?_ True.intro)
    repeat' (first | exact True.intro | exact rfl | refine And.intro ?_ ?_)
  · rintro k ⟨hk, hidx⟩
    conv => whnf
    refine And.intro (fun h_ => ?_) (fun h_ => ?_)
    · conv => whnf
      have hk' : k < xs.length := by simpa using h_
      obtain ⟨x, hx⟩ : ∃ x, xs[k]? = some x := ⟨_, List.getElem?_eq_getElem hk'⟩
      have hst := idxOf_step (p := p) hx
      refine ⟨by omega, cLock x, by simp [hx], rfl, ?_⟩
      conv => whnf
      refine ⟨_, _, hp x (List.mem_of_getElem? hx) _, True.intro, ?_⟩
      conv => whnf
      refine And.intro (fun h1 => ?_) (fun h1 => ?_)
      · conv => whnf
        refine ⟨[], rfl, ?_, True.intro⟩
        show DV.int .i64 (k : Int) = .int .i64 (idxOf p xs 0)
        rw [hidx, hst, h1]; rfl
      · conv => whnf
        intro z hz
        conv => whnf
        rw [wrap_small (by omega) (by omega)] at hz
        subst hz
        refine ⟨k + 1, [], ⟨by omega, ?_⟩, by omega, And.intro rfl (And.intro ?_ True.intro)⟩
        · rw [hidx, hst, h1]; rfl
        · repeat' (first | exact True.intro | exact rfl | refine And.intro ?_ ?_)
    · conv => whnf
      have hk' : k = xs.length := by simp at h_; omega
      refine ⟨[], rfl, ?_, True.intro⟩
      show DV.int .i64 (-1) = .int .i64 (idxOf p xs 0)
      rw [hidx, hk', List.drop_length]; rfl
theorem c51d (p : Lock → Bool) (l0 i0 : Nat) (xs : List Lock) (hl : xs.length < 1000000) (H : List (List Blk)) (hp : ∀ x, x ∈ xs → ∀ T T', CallEq X (T :: T' :: H) 104 [pLock x, .ptr (l0 + 3) i0 0] (.d (.bool (p x))) []) : CallEq X H 33 [.d (encLocks xs), .func (.func 104) [] [.ptr (l0 + 1) i0 0]] (.d (.bool (xs.any p))) [] := by
  rw [← idxOf_ge _ xs 0 (Int.le_refl _)]
  refine callEq_of_body X_ok rfl Tryz.func33 rfl ?_
  conv => whnf
  repeat' (first
    | (refine And.intro (fun h_ => ?_) (fun h_ => ?_) <;> (conv => whnf))
    | (refine ⟨_, _, i89 p _ _ xs _ hl (fun x hx T => hp x hx T _), (by first | exact True.intro | exact And.intro rfl flat_nil), ?_⟩; conv => whnf)
    | (intro z_ hz_; conv => whnf)
    | (refine ⟨[], rfl, ?_, True.intro⟩; (conv => whnf); (first | done | (simp_all only [refP, Bool.not_true, Bool.not_false, Bool.true_and, Bool.false_and, Bool.and_true, Bool.and_false, Bool.true_or, Bool.false_or, Bool.or_true, Bool.or_false, Bool.not_not, Bool.not_eq_true', Bool.not_eq_false', if_true, if_false, Bool.false_eq_true, Bool.true_eq_false, List.length_map]; done)))
    | fail)
end Go.Proofs.Ve

/- Whether the locks held are single: a contract. -/
set_option maxRecDepth 100000
set_option linter.all false
namespace Go.Proofs.Ve
open Go
def singleFrom (pre : List Lock) : List Lock → Bool
  | [] => true
  | x :: xs => bif pre.any (lTwice x) then false else singleFrom (pre ++ [x]) xs
theorem single_step {l : List Lock} {k : Nat} {x : Lock} (h : l[k]? = some x) : singleFrom (l.take k) (l.drop k) = bif (l.take k).any (lTwice x) then false else singleFrom (l.take (k + 1)) (l.drop (k + 1)) := by
  have hk := (List.getElem?_eq_some_iff.1 h).1
  have hx : l[k] = x := (List.getElem?_eq_some_iff.1 h).2
  rw [List.drop_eq_getElem_cons hk, hx, singleFrom, List.take_add_one, h]; rfl
theorem c52 (l : Locks) (hl : l.held.length < 1000000) (H : List (List Blk)) : CallEq X H 76 [pLocks l] (.d (.bool (singleFrom [] l.held))) [] := by
  refine callEq_of_body X_ok rfl Tryz.func76 rfl ?_
  conv => whnf
  refine loopV_of (fun k : Nat => ⟨[.any, .ptr 0 0 0, .any, .any, .any, .any, .any, .any, .d (encLocks l.held), .d (.int .i64 (l.held.map cLock).length), .d (.int .i64 k), .any, .any, .any, .any, .any, .any, .any, .any, .any, .any, .any, .any, .any], [.box [.d (encLocks l.held), .d (encLocks l.queue)]]⟩)
    (fun k => k ≤ l.held.length ∧ singleFrom [] l.held = singleFrom (l.held.take k) (l.held.drop k)) (fun k => l.held.length - k) 0 [0] ⟨Nat.zero_le _, rfl⟩ ?_ ?_
  · refine And.intro rfl (And.intro ?_ ?_)
    all_goals repeat' (first | exact True.intro | exact rfl | refine And.intro ?_ ?_)
  · rintro k ⟨hk, hidx⟩
    conv => whnf
    refine And.intro (fun h_ => ?_) (fun h_ => ?_)
    · conv => whnf
      have hk' : k < l.held.length := by simpa using h_
      obtain ⟨x, hx⟩ : ∃ x, l.held[k]? = some x := ⟨_, List.getElem?_eq_getElem hk'⟩
      have hst := single_step hx
      refine ⟨by omega, cLock x, by simp [hx], rfl, ?_⟩
      conv => whnf
      refine ⟨by omega, by simp; omega, ?_⟩
      conv => whnf
      have hc := fun (B0 : Blk) (rest : List Blk) (H : List (List Blk)) => c51d (lTwice x) 0 1 (l.held.take k) (by simp; omega) ((B0 :: bLock x :: rest) :: H) (fun y _ T T' => c89 x y T T' B0 rest H)
      rw [show encLocks (l.held.take k) = .sl (List.take (k : Int).toNat (l.held.map cLock)) by rw [encLocks, List.map_take]; rfl] at hc
      refine ⟨_, _, hc _ _ _, True.intro, ?_⟩
      conv => whnf
      refine And.intro (fun h1 => ?_) (fun h1 => ?_)
      · conv => whnf
        refine ⟨[], rfl, ?_, True.intro⟩
        show DV.bool false = .bool (singleFrom [] l.held)
        rw [hidx, hst, h1]; rfl
      · conv => whnf
        intro z hz
        conv => whnf
        rw [wrap_small (by omega) (by omega)] at hz
        subst hz
        refine ⟨k + 1, [0], ⟨by omega, ?_⟩, by omega, And.intro rfl (And.intro ?_ ?_)⟩
        · rw [hidx, hst, h1]; rfl
        all_goals repeat' (first | exact True.intro | exact rfl | refine And.intro ?_ ?_)
    · conv => whnf
      have hk' : k = l.held.length := by simp at h_; omega
      refine ⟨[], rfl, ?_, True.intro⟩
      show DV.bool true = .bool (singleFrom [] l.held)
      rw [hidx, hk', List.drop_length]; rfl
end Go.Proofs.Ve

/- The document's place of an owner's, and what it says covers; numbers that are the same. -/
set_option maxRecDepth 100000
set_option linter.all false
namespace Go.Proofs.Ve
open Go
def encI (l : List Int) : DV := .sl (l.map fun x => [.int .i64 x])
def sameFrom : List Int → List Int → Bool
  | [], _ => true
  | x :: xs, ys => match ys with | [] => true | y :: ys => bif x != y then false else sameFrom xs ys
theorem same_step {l m : List Int} {k : Nat} {x y : Int} (h : l[k]? = some x) (h' : m[k]? = some y) : sameFrom (l.drop k) (m.drop k) = bif x != y then false else sameFrom (l.drop (k + 1)) (m.drop (k + 1)) := by
  have hk := (List.getElem?_eq_some_iff.1 h).1
  have hm := (List.getElem?_eq_some_iff.1 h').1
  rw [List.drop_eq_getElem_cons hk, List.drop_eq_getElem_cons hm, (List.getElem?_eq_some_iff.1 h).2, (List.getElem?_eq_some_iff.1 h').2, sameFrom]
def numbers (a b : List Int) : Bool := if ((a.map fun x => [DV.int .i64 x]).length : Int) != ((b.map fun x => [DV.int .i64 x]).length : Int) then false else sameFrom a b
theorem c55 (a b : Int) (H : List (List Blk)) : CallEq X H 81 [.d (.int .i64 a), .d (.int .i64 b)] (.d (.bool (rCovers a b))) [] := by
  unfold rCovers and64
  refine callEq_of_body X_ok rfl Tryz.func81 rfl ?_
  conv => whnf
  repeat' (first
    | (refine And.intro (fun h_ => ?_) (fun h_ => ?_) <;> (conv => whnf))
    | (refine ⟨_, _, c91 _ _, (by first | exact True.intro | exact And.intro rfl flat_nil), ?_⟩; conv => whnf)
    | (intro z_ hz_; conv => whnf)
    | (refine ⟨[], rfl, ?_, True.intro⟩; (conv => whnf); (first | done | (simp_all only [refP, Bool.not_true, Bool.not_false, Bool.true_and, Bool.false_and, Bool.and_true, Bool.and_false, Bool.true_or, Bool.false_or, Bool.or_true, Bool.or_false, Bool.not_not, Bool.not_eq_true', Bool.not_eq_false', if_true, if_false, Bool.false_eq_true, Bool.true_eq_false, List.length_map]; done)))
    | fail)
theorem c46 (l : Locks) (o : Int) (hl : l.queue.length < 1000000) (H : List (List Blk)) : CallEq X H 52 [pLocks l, .d (.int .i64 o)] (.d (.int .i64 (place l.queue o))) [] := by
  unfold place
  refine callEq_of_body X_ok rfl Tryz.func52 rfl ?_
  conv => whnf
  refine loopV_of (fun k : Nat => ⟨[.any, .d (.int .i64 o), .ptr 0 0 0, .any, .any, .d (.int .i64 k), .any, .any, .any, .any, .any, .any, .any, .any, .any, .any, .any, .any, .any, .any, .any, .any], [.box [.d (encLocks l.held), .d (encLocks l.queue)]]⟩)
    (fun k => k ≤ l.queue.length ∧ idxOf (fun x => x.owner == o) l.queue 0 = idxOf (fun x => x.owner == o) (l.queue.drop k) k) (fun k => l.queue.length - k) 0 [0] ⟨Nat.zero_le _, rfl⟩ ?_ ?_
  · refine And.intro rfl (And.intro ?_ ?_)
    all_goals repeat' (first | exact True.intro | exact rfl | refine And.intro ?_ ?_)
  · rintro k ⟨hk, hidx⟩
    conv => whnf
    refine And.intro (fun h_ => ?_) (fun h_ => ?_)
    · conv => whnf
      have hk' : k < l.queue.length := by simpa using h_
      obtain ⟨x, hx⟩ : ∃ x, l.queue[k]? = some x := ⟨_, List.getElem?_eq_getElem hk'⟩
      have hst := idxOf_step (p := fun x => x.owner == o) hx
      refine ⟨by omega, cLock x, by simp [hx], rfl, ?_⟩
      conv => whnf
      refine And.intro (fun h1 => ?_) (fun h1 => ?_)
      · conv => whnf
        refine ⟨[], rfl, ?_, True.intro⟩
        show DV.int .i64 (k : Int) = .int .i64 (idxOf (fun x => x.owner == o) l.queue 0)
        rw [hidx, hst, h1]; rfl
      · conv => whnf
        intro z hz
        conv => whnf
        rw [wrap_small (by omega) (by omega)] at hz
        subst hz
        refine ⟨k + 1, [0], ⟨by omega, ?_⟩, by omega, And.intro rfl (And.intro ?_ ?_)⟩
        · rw [hidx, hst, h1]; rfl
        all_goals repeat' (first | exact True.intro | exact rfl | refine And.intro ?_ ?_)
    · conv => whnf
      have hk' : k = l.queue.length := by simp at h_; omega
      refine ⟨[], rfl, ?_, True.intro⟩
      show DV.int .i64 (-1) = .int .i64 (idxOf (fun x => x.owner == o) l.queue 0)
      rw [hidx, hk', List.drop_length]; rfl
theorem c16 (a b : List Int) (ha : a.length < 1000000) (H : List (List Blk)) : CallEq X H 13 [.d (encI a), .d (encI b)] (.d (.bool (numbers a b))) [] := by
  refine callEq_of_body X_ok rfl Tryz.func13 rfl ?_
  conv => whnf
  refine And.intro (fun h0 => ?_) (fun h0 => ?_)
  · conv => whnf
    refine ⟨[], rfl, ?_, True.intro⟩
    show DV.bool false = .bool (numbers a b)
    unfold numbers; rw [if_pos h0]
  · conv => whnf
    have hlen : a.length = b.length := by simp at h0; omega
    have hn : numbers a b = sameFrom a b := by unfold numbers; rw [h0]; rfl
    refine loopV_of (fun k : Nat => ⟨[.d (encI a), .d (encI b), .any, .any, .any, .d (.int .i64 k), .any, .any, .any, .any, .any, .any, .any, .any, .any, .any, .any, .any, .any, .any, .any, .any, .any, .any, .any, .any], []⟩)
      (fun k => k ≤ a.length ∧ numbers a b = sameFrom (a.drop k) (b.drop k)) (fun k => a.length - k) 0 [] ⟨Nat.zero_le _, hn⟩ ?_ ?_
    · refine And.intro rfl (And.intro ?_ ?_)
      all_goals repeat' (first | exact True.intro | exact rfl | refine And.intro ?_ ?_)
    · rintro k ⟨hk, hidx⟩
      conv => whnf
      refine And.intro (fun h_ => ?_) (fun h_ => ?_)
      · conv => whnf
        have hk' : k < a.length := by simpa using h_
        obtain ⟨x, hx⟩ : ∃ x, a[k]? = some x := ⟨_, List.getElem?_eq_getElem hk'⟩
        obtain ⟨y, hy⟩ : ∃ y, b[k]? = some y := ⟨_, List.getElem?_eq_getElem (by omega)⟩
        have hst := same_step hx hy
        refine ⟨by omega, [.int .i64 x], by simp [hx], rfl, ?_⟩
        conv => whnf
        refine ⟨by omega, [.int .i64 y], by simp [hy], rfl, ?_⟩
        conv => whnf
        refine And.intro (fun h1 => ?_) (fun h1 => ?_)
        · conv => whnf
          refine ⟨[], rfl, ?_, True.intro⟩
          show DV.bool false = .bool (numbers a b)
          rw [hidx, hst, h1]; rfl
        · conv => whnf
          intro z hz
          conv => whnf
          rw [wrap_small (by omega) (by omega)] at hz
          subst hz
          refine ⟨k + 1, [], ⟨by omega, ?_⟩, by omega, And.intro rfl (And.intro ?_ ?_)⟩
          · rw [hidx, hst, h1]; rfl
          all_goals repeat' (first | exact True.intro | exact rfl | refine And.intro ?_ ?_)
      · conv => whnf
        have hk' : k = a.length := by simp at h_; omega
        refine ⟨[], rfl, ?_, True.intro⟩
        show DV.bool true = .bool (numbers a b)
        rw [hidx, hk', List.drop_length]; rfl
end Go.Proofs.Ve

/- A few locks, of short spans. -/
set_option maxRecDepth 100000
set_option linter.all false
namespace Go.Proofs.Ve
open Go
def lLong (x : Lock) : Bool := decide (((x.span.lo.map fun b => [DV.int .u8 b.toNat]).length : Int) > 100) || decide (((x.span.hi.map fun b => [DV.int .u8 b.toNat]).length : Int) > 100)
def noLong : List Lock → Bool
  | [] => true
  | x :: xs => bif lLong x then false else noLong xs
theorem noLong_step {l : List Lock} {k : Nat} {x : Lock} (h : l[k]? = some x) : noLong (l.drop k) = bif lLong x then false else noLong (l.drop (k + 1)) := by
  have hk := (List.getElem?_eq_some_iff.1 h).1
  rw [List.drop_eq_getElem_cons hk, (List.getElem?_eq_some_iff.1 h).2, noLong]
def few (l : Locks) : Bool := if decide (((l.held.map cLock).length : Int) > 60) || decide (((l.queue.map cLock).length : Int) > 60) then false else bif noLong l.held then noLong l.queue else false
theorem long_a {x : Lock} (h : decide (((x.span.lo.map fun b => [DV.int .u8 b.toNat]).length : Int) > 100) = true) : lLong x = true := by unfold lLong; rw [h]; rfl
theorem long_b {x : Lock} (h : decide (((x.span.lo.map fun b => [DV.int .u8 b.toNat]).length : Int) > 100) = false) (h' : decide (((x.span.hi.map fun b => [DV.int .u8 b.toNat]).length : Int) > 100) = true) : lLong x = true := by unfold lLong; rw [h, h']; rfl
theorem long_c {x : Lock} (h : decide (((x.span.lo.map fun b => [DV.int .u8 b.toNat]).length : Int) > 100) = false) (h' : decide (((x.span.hi.map fun b => [DV.int .u8 b.toNat]).length : Int) > 100) = false) : lLong x = false := by unfold lLong; rw [h, h']; rfl
theorem c14 (l : Locks) (H : List (List Blk)) : CallEq X H 5 [pLocks l] (.d (.bool (few l))) [] := by
  refine callEq_of_body X_ok rfl Tryz.func5 rfl ?_
  conv => whnf
  have fin : decide (((l.held.map cLock).length : Int) > 60) = false → decide (((l.queue.map cLock).length : Int) > 60) = false → few l = bif noLong l.held then noLong l.queue else false := fun h1 h2 => by unfold few; rw [h1, h2]; rfl
  refine And.intro (fun h1 => ?_) (fun h1 => ?_) <;> (conv => whnf)
  · refine And.intro (fun h2 => ?_) (fun h2 => ?_) <;> (conv => whnf)
    · refine ⟨[], rfl, ?_, True.intro⟩
      show DV.bool false = .bool (few l)
      unfold few; rw [h1, h2]; rfl
    · have hf := fin h1 h2
      have b1 : l.held.length ≤ 60 := by simp at h1; omega
      have b2 : l.queue.length ≤ 60 := by simp at h2; omega
      refine loopV_of (fun k : Nat => ⟨[.any, .ptr 0 0 0, .any, .d (.int .i64 k), .any, .any, .any, .any, .any, .any, .any, .any, .any, .any, .any, .any, .any, .any, .any, .any, .any, .any, .any, .any, .any, .any, .any, .any, .any, .any, .any, .any, .any, .any, .any, .any, .any, .any, .any, .any, .any, .any, .any, .any, .any, .any, .any, .any, .any, .any, .any, .any, .any, .any, .any, .any, .any, .any, .any, .any, .any, .any, .any, .any, .any, .any, .any, .any, .any], [.box [.d (encLocks l.held), .d (encLocks l.queue)]]⟩)
        (fun k => k ≤ l.held.length ∧ noLong l.held = noLong (l.held.drop k)) (fun k => l.held.length - k) 0 [0] ⟨Nat.zero_le _, rfl⟩ ?_ ?_
      · refine And.intro rfl (And.intro ?_ ?_)
        all_goals repeat' (first | exact True.intro | exact rfl | refine And.intro ?_ ?_)
      · rintro k ⟨hk, hidx⟩
        conv => whnf
        refine And.intro (fun h_ => ?_) (fun h_ => ?_)
        · conv => whnf
          have hk' : k < l.held.length := by simpa using h_
          obtain ⟨x, hx⟩ : ∃ x, l.held[k]? = some x := ⟨_, List.getElem?_eq_getElem hk'⟩
          have hst := noLong_step hx
          have out : lLong x = true → DV.bool false = .bool (few l) := fun h => by rw [hf, hidx, hst, h]; rfl
          have next : lLong x = false → noLong l.held = noLong (l.held.drop (k + 1)) := fun h => by rw [hidx, hst, h]; rfl
          refine ⟨by omega, cLock x, by simp [hx], rfl, ?_⟩
          conv => whnf
          refine And.intro (fun h3 => ?_) (fun h3 => ?_) <;> (conv => whnf)
          · refine ⟨by omega, cLock x, by simp [hx], rfl, ?_⟩
            conv => whnf
            refine And.intro (fun h4 => ?_) (fun h4 => ?_) <;> (conv => whnf)
            · exact ⟨[], rfl, out (long_b h3 h4), True.intro⟩
            · intro z hz
              conv => whnf
              rw [wrap_small (by omega) (by omega)] at hz
              subst hz
              refine ⟨k + 1, [0], ⟨by omega, next (long_c h3 h4)⟩, by omega, And.intro rfl (And.intro ?_ ?_)⟩
              all_goals repeat' (first | exact True.intro | exact rfl | refine And.intro ?_ ?_)
          · exact ⟨[], rfl, out (long_a h3), True.intro⟩
        · conv => whnf
          have hk' : k = l.held.length := by simp at h_; omega
          have hh : noLong l.held = true := by rw [hidx, hk', List.drop_length]; rfl
          have hf2 : few l = noLong l.queue := by rw [hf, hh]; rfl
          refine loopV_of (fun k : Nat => ⟨[.any, .ptr 0 0 0, .any, .any, .d (.int .i64 k), .any, .any, .any, .any, .any, .any, .any, .any, .any, .any, .any, .any, .any, .any, .any, .any, .any, .any, .any, .any, .any, .any, .any, .any, .any, .any, .any, .any, .any, .any, .any, .any, .any, .any, .any, .any, .any, .any, .any, .any, .any, .any, .any, .any, .any, .any, .any, .any, .any, .any, .any, .any, .any, .any, .any, .any, .any, .any, .any, .any, .any, .any, .any, .any], [.box [.d (encLocks l.held), .d (encLocks l.queue)]]⟩)
            (fun k => k ≤ l.queue.length ∧ few l = noLong (l.queue.drop k)) (fun k => l.queue.length - k) 0 [0] ⟨Nat.zero_le _, hf2⟩ ?_ ?_
          · refine And.intro rfl (And.intro ?_ ?_)
            all_goals repeat' (first | exact True.intro | exact rfl | refine And.intro ?_ ?_)
          · rintro k ⟨hk, hidx⟩
            conv => whnf
            refine And.intro (fun h_ => ?_) (fun h_ => ?_)
            · conv => whnf
              have hk' : k < l.queue.length := by simpa using h_
              obtain ⟨x, hx⟩ : ∃ x, l.queue[k]? = some x := ⟨_, List.getElem?_eq_getElem hk'⟩
              have hst := noLong_step hx
              have out : lLong x = true → DV.bool false = .bool (few l) := fun h => by rw [hidx, hst, h]; rfl
              have next : lLong x = false → few l = noLong (l.queue.drop (k + 1)) := fun h => by rw [hidx, hst, h]; rfl
              refine ⟨by omega, cLock x, by simp [hx], rfl, ?_⟩
              conv => whnf
              refine And.intro (fun h3 => ?_) (fun h3 => ?_) <;> (conv => whnf)
              · refine ⟨by omega, cLock x, by simp [hx], rfl, ?_⟩
                conv => whnf
                refine And.intro (fun h4 => ?_) (fun h4 => ?_) <;> (conv => whnf)
                · exact ⟨[], rfl, out (long_b h3 h4), True.intro⟩
                · intro z hz
                  conv => whnf
                  rw [wrap_small (by omega) (by omega)] at hz
                  subst hz
                  refine ⟨k + 1, [0], ⟨by omega, next (long_c h3 h4)⟩, by omega, And.intro rfl (And.intro ?_ ?_)⟩
                  all_goals repeat' (first | exact True.intro | exact rfl | refine And.intro ?_ ?_)
              · exact ⟨[], rfl, out (long_a h3), True.intro⟩
            · conv => whnf
              have hk' : k = l.queue.length := by simp at h_; omega
              refine ⟨[], rfl, ?_, True.intro⟩
              show DV.bool true = .bool (few l)
              rw [hidx, hk', List.drop_length]; rfl
  · refine ⟨[], rfl, ?_, True.intro⟩
    show DV.bool false = .bool (few l)
    unfold few; rw [h1]; rfl
end Go.Proofs.Ve

/- What covers, serves, is the same. -/
set_option maxRecDepth 100000
set_option linter.all false
namespace Go.Proofs.Ve
open Go
def sCovers (a b : Span) : Bool :=
  if sEmpty b then true
  else if a.t != b.t || decide (cmpB a.lo b.lo > 0) then false
  else a.op || (!b.op && decide (cmpB b.hi a.hi ≤ 0))
theorem c106 (a b : Span) (H : List (List Blk)) : CallEq X H 113 [pSpan a, pSpan b] (.d (.bool (sCovers a b))) [] := by
  unfold sCovers
  refine callEq_of_body X_ok rfl Tryz.func113 rfl ?_
  conv => whnf
  repeat' (first
    | (refine And.intro (fun h_ => ?_) (fun h_ => ?_) <;> (conv => whnf))
    | (refine ⟨_, _, c88 b _, (by first | exact True.intro | exact And.intro rfl flat_nil), ?_⟩; conv => whnf)
    | (refine ⟨_, _, c96 _ _ _, (by first | exact True.intro | exact And.intro rfl flat_nil), ?_⟩; conv => whnf)
    | (intro z_ hz_; conv => whnf)
    | (refine ⟨[], rfl, ?_, True.intro⟩; (conv => whnf); (first | done | (simp_all only [refP, Bool.not_true, Bool.not_false, Bool.true_and, Bool.false_and, Bool.and_true, Bool.and_false, Bool.true_or, Bool.false_or, Bool.or_true, Bool.or_false, Bool.not_not, Bool.not_eq_true', Bool.not_eq_false', if_true, if_false, Bool.false_eq_true, Bool.true_eq_false, List.length_map]; done)))
    | fail)
def lServes (h x : Lock) : Bool :=
  if (h.owner != x.owner || h.span.t != x.span.t) || (x.whole && !h.whole) then false
  else if h.whole then mCovers h.mode x.mode
  else sCovers h.span x.span && (h.mode == 5 || h.mode == x.mode)
theorem c66 (h x : Lock) (H : List (List Blk)) : CallEq X H 86 [pLock h, pLock x] (.d (.bool (lServes h x))) [] := by
  unfold lServes
  refine callEq_of_body X_ok rfl Tryz.func86 rfl ?_
  conv => whnf
  repeat' (first
    | (refine And.intro (fun h_ => ?_) (fun h_ => ?_) <;> (conv => whnf))
    | (refine ⟨_, _, c87 _ _ _, (by first | exact True.intro | exact And.intro rfl flat_nil), ?_⟩; conv => whnf)
    | (refine ⟨_, _, c106 h.span x.span _, (by first | exact True.intro | exact And.intro rfl flat_nil), ?_⟩; conv => whnf)
    | (intro z_ hz_; conv => whnf)
    | (refine ⟨[], rfl, ?_, True.intro⟩; (conv => whnf); (first | done | (simp_all only [refP, Bool.not_true, Bool.not_false, Bool.true_and, Bool.false_and, Bool.and_true, Bool.and_false, Bool.true_or, Bool.false_or, Bool.or_true, Bool.or_false, Bool.not_not, Bool.not_eq_true', Bool.not_eq_false', if_true, if_false, Bool.false_eq_true, Bool.true_eq_false, List.length_map]; done)))
    | fail)
def sOne (a b : Span) : Bool := a.t == b.t && eqB a.lo b.lo && eqB a.hi b.hi && a.op == b.op
theorem c108 (a b : Span) (H : List (List Blk)) : CallEq X H 72 [pSpan a, pSpan b] (.d (.bool (sOne a b))) [] := by
  unfold sOne eqB toBA
  refine callEq_of_body X_ok rfl Tryz.func72 rfl ?_
  conv => whnf
  repeat' (first
    | (refine And.intro (fun h_ => ?_) (fun h_ => ?_) <;> (conv => whnf))
    | (refine ⟨_, rfl, ?_⟩; conv => whnf)
    | (intro z_ hz_; conv => whnf)
    | (refine ⟨[], rfl, ?_, True.intro⟩; (conv => whnf); (first | done | (simp_all only [refP, Bool.not_true, Bool.not_false, Bool.true_and, Bool.false_and, Bool.and_true, Bool.and_false, Bool.true_or, Bool.false_or, Bool.or_true, Bool.or_false, Bool.not_not, Bool.not_eq_true', Bool.not_eq_false', if_true, if_false, Bool.false_eq_true, Bool.true_eq_false, List.length_map]; done)))
    | fail)
def mAbove (m : Int) : Int := if m == 1 then 1 else if m == 3 then 1 else if m == 2 then 2 else if m == 4 then 2 else if m == 5 then 2 else 0
theorem c113 (m : Int) (H : List (List Blk)) : CallEq X H 45 [.d (.int .i64 m)] (.d (.int .i64 (mAbove m))) [] := by
  unfold mAbove
  refine callEq_of_body X_ok rfl Tryz.func45 rfl ?_
  conv => whnf
  repeat' (first
    | (refine And.intro (fun h_ => ?_) (fun h_ => ?_) <;> (conv => whnf))
    | (intro z_ hz_; conv => whnf)
    | (refine ⟨[], rfl, ?_, True.intro⟩; (conv => whnf); (first | done | (simp_all only [refP, Bool.not_true, Bool.not_false, Bool.true_and, Bool.false_and, Bool.and_true, Bool.and_false, Bool.true_or, Bool.false_or, Bool.or_true, Bool.or_false, Bool.not_not, Bool.not_eq_true', Bool.not_eq_false', if_true, if_false, Bool.false_eq_true, Bool.true_eq_false, List.length_map]; done)))
    | fail)
def wIs (o : Int) : Bool := decide (o ≥ 0) && decide (o < 4)
theorem c109 (o : Int) (H : List (List Blk)) : CallEq X H 116 [.d (.int .i64 o)] (.d (.bool (wIs o))) [] := by
  unfold wIs
  refine callEq_of_body X_ok rfl Tryz.func116 rfl ?_
  conv => whnf
  repeat' (first
    | (refine And.intro (fun h_ => ?_) (fun h_ => ?_) <;> (conv => whnf))
    | (intro z_ hz_; conv => whnf)
    | (refine ⟨[], rfl, ?_, True.intro⟩; (conv => whnf); (first | done | (simp_all only [refP, Bool.not_true, Bool.not_false, Bool.true_and, Bool.false_and, Bool.and_true, Bool.and_false, Bool.true_or, Bool.false_or, Bool.or_true, Bool.or_false, Bool.not_not, Bool.not_eq_true', Bool.not_eq_false', if_true, if_false, Bool.false_eq_true, Bool.true_eq_false, List.length_map]; done)))
    | fail)
end Go.Proofs.Ve

/- Contracts of the library's, off the shelf, as the value machine's: what is new, what was turned in place. -/
set_option linter.all false
namespace Go.Proofs.Ve
open Go Go.RowKit

/-- A new row, nothing else turned. -/
theorem new_row {m : M} {H : List (List Blk)} (hinv : Inv m [] H) (hfree : ∀ i, m.ρ 0 i = none) {w' : World} {v : Value} {e sz : Nat} {xs : List (List DV)} {flat : List Value} (h0 : 0 < sz) (hxs : ∀ x ∈ xs, x.length = sz)
    (hown : w'.ownsRow m.w.heap.size e sz v xs.length flat) (hB : Below m.w.heap.size m.w w') (hc : ∀ (ok : Nat → Prop), ∀ (i : Nat) x (j : Nat) y u, xs[i]? = some x → x[j]? = some y → flat[i * sz + j]? = some u → RD w' ok y u) :
    ∃ m', m'.w = w' ∧ Grow m m' ∧ (∀ l i, m'.ρ (l + 1) i = m.ρ (l + 1) i) ∧ (∀ j u k, m'.ρ 0 j = some u → blkOf u = some k → m.w.heap.size ≤ k) ∧ Inv m' [.row e sz xs] H ∧ m'.ρ 0 0 = some v := by
  have hown0 : w'.ownsRow 0 e sz v xs.length flat := by
    obtain ⟨a, b⟩ := hown
    refine ⟨a, ?_⟩
    rcases b with b | ⟨g, cap, cur, b1, _, b2⟩
    · exact .inl b
    · exact .inr ⟨g, cap, cur, b1, Nat.zero_le _, b2⟩
  have hblk : ∀ k, blkOf v = some k → m.w.heap.size ≤ k ∧ k < w'.heap.size := fun k hk => by
    rcases hown.2 with ⟨b, _⟩ | ⟨g, cap, cur, b1, b2, b3, _⟩
    · rw [b] at hk; cases hk
    · rw [b1] at hk; cases hk; exact ⟨b2, (Array.getElem?_eq_some_iff.1 b3).1⟩
  let m' : M := ⟨w', fun l i => match l with | 0 => if i = 0 then some v else none | l + 1 => m.ρ (l + 1) i, fun k => m.U k ∨ blkOf v = some k⟩
  have h00 : m'.ρ 0 0 = some v := rfl
  have hup : ∀ l i, m'.ρ (l + 1) i = m.ρ (l + 1) i := fun _ _ => rfl
  have hz : ∀ i u, m'.ρ 0 i = some u → i = 0 ∧ u = v := fun i u h => by
    change (if i = 0 then some v else none) = some u at h
    split at h
    · cases h; exact ⟨by assumption, rfl⟩
    · cases h
  have hG : Grow m m' := by
    refine ⟨hB.os, hB.tape, hB.output, hB.size, fun k hk => hB.block k hk, fun l i u hu => ?_, fun k hk => ⟨fun h => ?_, .inl⟩⟩
    · cases l with
      | zero => rw [hfree i] at hu; cases hu
      | succ l => exact hu
    · rcases h with h | h
      · exact h
      · have := (hblk k h).1; omega
  have get : ∀ l i b, getB [.row e sz xs] H l i = some b → (l = 0 ∧ i = 0 ∧ b = .row e sz xs) ∨ (∃ l', l = l' + 1 ∧ getB [] H l i = some b) := by
    intro l i b hb
    cases l with
    | zero =>
      cases i with
      | zero => simp [getB] at hb; exact .inl ⟨rfl, rfl, hb.symm⟩
      | succ i => simp [getB] at hb
    | succ l => exact .inr ⟨l, rfl, hb⟩
  refine ⟨m', rfl, hG, hup, fun j u k hu hk => ?_, ⟨fun l i b hb => ?_, fun l i b l' i' b' u u' k h1 h2 h3 h4 h5 h6 h7 h8 => ?_, fun l i b u k h1 h2 h3 h4 => ?_, fun k hk => ?_⟩, h00⟩
  · obtain ⟨rfl, rfl⟩ := hz j u hu; exact (hblk k hk).1
  · rcases get l i b hb with ⟨rfl, rfl, rfl⟩ | ⟨l', rfl, hb'⟩
    · intro u hu
      rw [h00] at hu; cases hu
      exact ⟨h0, hxs, flat, hown0, hc _⟩
    · exact (hinv.blk _ i b hb').keep hG.keep (hup l' i) (fun u k hl hu hk => hG.heap k (hinv.lt k (hinv.own _ i b u k hb' hl hu hk)))
  · rcases get l i b h1 with ⟨rfl, rfl, rfl⟩ | ⟨a, rfl, hb⟩ <;> rcases get l' i' b' h3 with ⟨rfl, rfl, rfl⟩ | ⟨a', rfl, hb'⟩
    · exact ⟨rfl, rfl⟩
    · exfalso
      rw [h00] at h5; cases h5
      have := hinv.lt k (hinv.own _ i' b' u' k hb' h4 h6 h8)
      have := (hblk k h7).1; omega
    · exfalso
      rw [h00] at h6; cases h6
      have := hinv.lt k (hinv.own _ i b u k hb h2 h5 h7)
      have := (hblk k h8).1; omega
    · exact hinv.inj _ i b _ i' b' u u' k hb h2 hb' h4 h5 h6 h7 h8
  · rcases get l i b h1 with ⟨rfl, rfl, rfl⟩ | ⟨a, rfl, hb⟩
    · rw [h00] at h3; cases h3; exact .inr h4
    · exact .inl (hinv.own _ i b u k hb h2 h3 h4)
  · rcases hk with hk | hk
    · exact Nat.lt_of_lt_of_le (hinv.lt k hk) hB.size
    · exact (hblk k hk).2

/-- A row that was given, turned in place. -/
theorem turn_row {m : M} {H : List (List Blk)} {e sz : Nat} {xs xs' : List (List DV)} {v : Value} (hinv : Inv m [.row e sz xs] H) (hρ : m.ρ 0 0 = some v) (hfree : ∀ i, 1 ≤ i → m.ρ 0 i = none) {w' : World} {flat : List Value} (hxs : ∀ x ∈ xs', x.length = sz)
    (hos : w'.os = m.w.os) (htape : w'.tape = m.w.tape) (hout : w'.output = m.w.output) (hsize : m.w.heap.size ≤ w'.heap.size) (hheap : ∀ k, k < m.w.heap.size → blkOf v ≠ some k → w'.heap[k]? = m.w.heap[k]?)
    (hown : w'.ownsRow 0 e sz v xs'.length flat) (hc : ∀ (ok : Nat → Prop), ∀ (i : Nat) x (j : Nat) y u, xs'[i]? = some x → x[j]? = some y → flat[i * sz + j]? = some u → RD w' ok y u) :
    Since (M0.of m [.row e sz xs]) ⟨w', m.ρ, m.U⟩ [.row e sz xs'] ∧ Inv ⟨w', m.ρ, m.U⟩ [.row e sz xs'] H := by
  obtain ⟨h0, _⟩ := hinv.blk 0 0 _ rfl v hρ
  have hgU : ∀ k, blkOf v = some k → m.U k := fun k hk => hinv.own 0 0 _ v k rfl rfl hρ hk
  have mine : ∀ k, blkOf v = some k → Mine m [.row e sz xs] k := fun k hk => ⟨0, _, v, rfl, rfl, hρ, hk⟩
  have hK : Keep m ⟨w', m.ρ, m.U⟩ := ⟨fun _ _ _ h => h, hsize, fun k hk => ⟨hk.2, hheap k hk.1 (fun h => hk.2 (hgU k h))⟩⟩
  have get : ∀ l i b, getB [.row e sz xs'] H l i = some b → (l = 0 ∧ i = 0 ∧ b = .row e sz xs') ∨ (∃ l', l = l' + 1 ∧ getB [.row e sz xs] H l i = some b) := by
    intro l i b hb
    cases l with
    | zero =>
      cases i with
      | zero => simp [getB] at hb; exact .inl ⟨rfl, rfl, hb.symm⟩
      | succ i => simp [getB] at hb
    | succ l => exact .inr ⟨l, rfl, hb⟩
  have old : ∀ l i b, getB [.row e sz xs'] H l i = some b → b.live = true → ∃ b', getB [.row e sz xs] H l i = some b' ∧ b'.live = true := by
    intro l i b hb hl
    rcases get l i b hb with ⟨rfl, rfl, rfl⟩ | ⟨l', rfl, hb'⟩
    · exact ⟨_, rfl, rfl⟩
    · exact ⟨b, hb', hl⟩
  refine ⟨⟨hos, htape, hout, hsize, fun k hk hn _ => hheap k hk (fun h => hn (mine k h)), fun _ _ => rfl, fun _ _ => Iff.rfl, fun k ⟨j, _, u, _, _, hu, hk⟩ => .inr ?_⟩, ⟨fun l i b hb => ?_, fun l i b l' i' b' u u' k h1 h2 h3 h4 h5 h6 h7 h8 => ?_, fun l i b u k h1 h2 h3 h4 => ?_, fun k hk => Nat.lt_of_lt_of_le (hinv.lt k hk) hsize⟩⟩
  · cases j with
    | zero =>
      change m.ρ 0 0 = some u at hu
      rw [hρ] at hu; cases hu; exact mine k hk
    | succ j =>
      change m.ρ 0 (j + 1) = some u at hu
      rw [hfree _ (by omega)] at hu; cases hu
  · rcases get l i b hb with ⟨rfl, rfl, rfl⟩ | ⟨l', rfl, hb'⟩
    · intro u hu
      change m.ρ 0 0 = some u at hu
      rw [hρ] at hu; cases hu
      exact ⟨h0, hxs, flat, hown, hc _⟩
    · refine (hinv.blk _ i b hb').keep hK rfl (fun u k hl hu hk => hheap k (hinv.lt k (hinv.own _ i b u k hb' hl hu hk)) (fun h => ?_))
      have := (hinv.inj (l' + 1) i b 0 0 _ u v k hb' hl rfl rfl hu hρ hk h).1
      cases this
  · obtain ⟨c, c1, c2⟩ := old l i b h1 h2
    obtain ⟨c', d1, d2⟩ := old l' i' b' h3 h4
    exact hinv.inj l i c l' i' c' u u' k c1 c2 d1 d2 h5 h6 h7 h8
  · obtain ⟨c, c1, c2⟩ := old l i b h1 h2
    exact hinv.own l i c u k c1 c2 h3 h4

/-! ### rows of whole numbers -/
def rowI (l : List Int) : List (List DV) := l.map fun x => [.int .i64 x]
theorem rowI_len (l : List Int) : (rowI l).length = l.length := by simp [rowI]
theorem rowI_one (l : List Int) : ∀ x ∈ rowI l, x.length = 1 := fun x hx => by simp only [rowI, List.mem_map] at hx; obtain ⟨_, _, rfl⟩ := hx; rfl
theorem rowI_rd (l : List Int) (w : World) (ok : Nat → Prop) (i : Nat) (x : List DV) (j : Nat) (y : DV) (u : Value) (hx : (rowI l)[i]? = some x) (hy : x[j]? = some y) (hu : (l.map (Value.int .i64))[i * 1 + j]? = some u) : RD w ok y u := by
  unfold rowI at hx
  rw [List.getElem?_map] at hx
  obtain ⟨n, hn, rfl⟩ := Option.map_eq_some_iff.1 hx
  cases j with
  | succ j => simp at hy
  | zero =>
    simp at hy
    subst hy
    rw [Nat.mul_one, Nat.add_zero, List.getElem?_map, hn] at hu
    cases hu; exact .int _ _
theorem rowI_cells {w : World} {v : Value} {e : Nat} {flat : List Value} {l : List Int} (ho : w.ownsRow 0 e 1 v (rowI l).length flat) (hrd : ∀ (i : Nat) x (j : Nat) y u, (rowI l)[i]? = some x → x[j]? = some y → flat[i * 1 + j]? = some u → ∃ ok : Nat → Prop, RD w ok y u) : flat = l.map (Value.int .i64) := by
  apply List.ext_getElem?
  intro i
  have hfl : flat.length = l.length := by rw [ho.1, rowI_len]; omega
  rcases Nat.lt_or_ge i l.length with h | h
  · have h1 : flat[i]? = some flat[i] := List.getElem?_eq_getElem (by omega)
    obtain ⟨ok, h2⟩ := hrd i [.int .i64 l[i]] 0 _ flat[i] (by simp [rowI, h]) rfl (by rw [Nat.mul_one, Nat.add_zero]; exact h1)
    rw [h1, List.getElem?_map, List.getElem?_eq_getElem h]
    generalize flat[i] = u at h2
    cases h2; rfl
  · rw [List.getElem?_eq_none (by omega), List.getElem?_eq_none (by simpa using h)]
end Go.Proofs.Ve
