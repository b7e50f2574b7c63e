/- TreeFinds, part 2 of 5. The engine and the contracts that the proof needs. -/
import Derived.LoopN
import Derived.Test.YtingjgfoihjelaaTreeFindsJ1
/- What the value machine says of an operation is so: whole. -/
set_option linter.all false
namespace Go.Proofs.Ve
open Go

theorem plain_fun {C : Cx} (hC : C.Ok) {f : Nat} (h : C.plain f = true) : ∃ fn, C.P.funcs[f]? = some fn ∧ fn.body.isSome = true ∧ (fn.name == "runtime.NumGoroutine") = false := by
  have hf := hC.funs
  unfold funsB at hf
  rw [List.all_eq_true] at hf
  simp only [Cx.plain, Bool.and_eq_true, Bool.not_eq_true'] at h
  obtain ⟨h1, h2⟩ := h
  have := hf f (List.mem_range.2 (by simpa [Nat.blt_eq] using h1))
  rw [h2, Bool.false_or] at this
  split at this
  · rename_i fn hfn
    simp only [Bool.and_eq_true, Bool.not_eq_true'] at this
    exact ⟨fn, hfn, this.1, this.2⟩
  · cases this
theorem run_callFunc {C : Cx} (hC : C.Ok) {f : Nat} (h : C.plain f = true) (args : Array Value) (w : World) : (callFunc f args).run C.P w = .ok (.enter f args) w := by
  obtain ⟨fn, h1, h2, h3⟩ := plain_fun hC h
  obtain ⟨c, hc⟩ := Option.isSome_iff_exists.1 h2
  have h4 : ¬ fn.name = "runtime.NumGoroutine" := by simpa using h3
  simp [callFunc, h1, h4, hc]

theorem run_bytesX {P : Program} {m : M} {bs : List UInt8} {v : Value} (h : RP m (.d (.sl (bs.map fun b => [DV.int .u8 b.toNat]))) v) : (Extern.Bytes.bytesOf v).run P m.w = .ok ⟨bs.toArray⟩ m.w := by
  cases h with
  | d _ _ h =>
    cases h with
    | sl sz _ A n c ad u hn hc hm hA hsz hcell hr =>
      simp only [List.length_map] at hn
      have hb : Lib.bytesOf (bs.map fun b => (b.toNat : Int)) = bs := by simp [Lib.bytesOf, Function.comp_def]
      cases A with
      | none =>
        obtain rfl : bs = [] := by
          rcases Nat.eq_zero_or_pos n with h | h
          · exact List.eq_nil_of_length_eq_zero (by omega)
          · have := hA h; cases this
        rfl
      | some a0 =>
        have := Lib.run_loadBytesX (P := P) m.w (bs.map fun b => (b.toNat : Int)) a0 .empty (fun j x hx => by
          have h0 : 0 < n := by have := (List.getElem?_eq_some_iff.1 hx).1; simp at this; omega
          have hA' := hA h0
          cases hA'
          rw [List.getElem?_map] at hx
          obtain ⟨b, hb, rfl⟩ := Option.map_eq_some_iff.1 hx
          have h1 : (bs.map fun b => [DV.int .u8 (b.toNat : Int)])[j]? = some [DV.int .u8 (b.toNat : Int)] := by rw [List.getElem?_map, hb]; rfl
          have hs1 : sz = 1 := (hsz _ (List.mem_of_getElem? h1)).symm
          subst hs1
          have h2 := (hcell j _ 0 _ h1 rfl).2
          have h3 := hr j _ 0 _ h1 rfl
          rw [Nat.mul_one, Nat.add_zero] at h2 h3
          rw [h2]
          generalize u j = uu at h3
          cases h3; rfl)
        rw [List.length_map, hn] at this
        simp only [Extern.Bytes.bytesOf, this, hb]
        rw [show ByteArray.empty.data = #[] from rfl, Array.empty_append]

theorem growAt_mem {l : List (Nat × Nat)} {g e : Nat} (h : growAt l g = some e) : (g, e) ∈ l := by
  induction l with
  | nil => cases h
  | cons p l ih =>
    obtain ⟨f, e'⟩ := p
    change (match Nat.beq f g with | true => some e' | false => growAt l g) = some e at h
    split at h
    · rename_i hb
      have := Nat.eq_of_beq_eq_true hb
      subst this
      cases h
      exact List.mem_cons_self
    · exact List.mem_cons_of_mem _ (ih h)
theorem opK_step {C : Cx} (hC : C.Ok) {H : List (List Blk)} {o : Oper} {tm : List PV} {top : List Blk} {K : PV → List Blk → Prop} (h : opK C H o.op tm top K) :
    ∃ pv top', K pv top' ∧ Ext top top' ∧ OpStep C H o tm top pv top' := by
  by_cases hcall : ∀ c, o.op ≠ .call c
  · exact opK_plain hC hcall h
  obtain ⟨c, ho⟩ : ∃ c, o.op = .call c := by
    cases ho : o.op <;> first | exact ⟨_, rfl⟩ | exact absurd (fun c hc => by rw [ho] at hc; cases hc) hcall
  rw [ho] at h
  simp only [opK] at h
  cases hcl : c.callee with
  | invoke r n => rw [hcl] at h; exact h.elim
  | builtin b =>
    rw [hcl] at h
    cases b <;> try exact h.elim
    -- len
    dsimp only at h
    split at h
    case h_2 => exact h.elim
    rename_i x t hx ht
    have hx' : c.args = #[x] := by rw [← Array.toArray_toList (xs := c.args), hx]
    have ht' : c.argTypes = #[t] := by rw [← Array.toArray_toList (xs := c.argTypes), ht]
    obtain ⟨p, hp, h⟩ := evK_ev h
    obtain ⟨r, hr, ht_, h_⟩ := lookK_spec h
    clear h
    subst ht_
    obtain ⟨i, z, d, hi, hs, hb, hz, hzz, hd, hty⟩ := row_info hC hr
    have mx : x ∈ o.op.operands.toList := by rw [ho]; simp [Op.operands, Call.operands, hcl, hx']
    have ex : ∀ (a : Act) (w : World) (v : Value), (Builtin.len_ #[r.t] o.type #[a.eval x]).run C.P w = .ok v w → (execOp a.eval o).run C.P w = .ok (.value v) w := fun a w v hv => by
      simp [execOp, ho, resolve, hcl, hx', ht', invoke, builtin, hv]
    have sl : ∀ (A : Option Addr) (n k : Nat) (w : World), r.ty.isSlice = true → (Builtin.len_ #[r.t] o.type #[.slice A n k]).run C.P w = .ok (.int .i64 n) w := fun A n k w hsl => by
      obtain ⟨e, rfl⟩ := ty_slice hty hsl
      simp [Builtin.len_, run_under hd, goInt]
    split at h_
    · rename_i xs
      simp only [ifK] at h_
      split at h_
      case h_2 => exact h_.elim
      rename_i hsl
      refine ⟨_, top, h_, Ext.refl _, step_val fun m a hinv he => ?_⟩
      have := ev_rel he mx hp
      generalize hv : a.eval x = v at this
      cases this with
      | d _ _ hx2 =>
        cases hx2 with
        | sl sz _ A n k ad u hn hc hm hA hsz hcell hr2 =>
          exact ⟨_, ex a _ _ (by rw [hv]; exact sl A n k _ hsl), by rw [hn]; exact rd_int _ _⟩
    · simp only [ifK] at h_
      split at h_
      case h_2 => exact h_.elim
      rename_i hsl
      refine ⟨_, top, h_, Ext.refl _, step_val fun m a hinv he => ?_⟩
      have := ev_rel he mx hp
      generalize hv : a.eval x = v at this
      cases this
      exact ⟨_, ex a _ _ (by rw [hv]; exact sl none 0 0 _ hsl), rd_int _ _⟩
    · simp only [ifK] at h_
      split at h_
      case h_2 => exact h_.elim
      rename_i hsl
      refine ⟨_, top, h_, Ext.refl _, step_val fun m a hinv he => ?_⟩
      have := ev_rel he mx hp
      generalize hv : a.eval x = v at this
      cases this with
      | emp ad => exact ⟨_, ex a _ _ (by rw [hv]; exact sl (some ad) 0 0 _ hsl), rd_int _ _⟩
    · simp only [ifK] at h_
      split at h_
      case h_2 => exact h_.elim
      rename_i hsl
      refine ⟨_, top, h_, Ext.refl _, step_val fun m a hinv he => ?_⟩
      have := ev_rel he mx hp
      generalize hv : a.eval x = v at this
      cases this with
      | row _ _ n N k A h1 h2 h3 => exact ⟨_, ex a _ _ (by rw [hv]; exact sl A _ k _ hsl), rd_int _ _⟩
    · rename_i s
      cases hT : r.ty <;> rw [hT] at h_ <;> try exact h_.elim
      rw [hT] at hty
      obtain rfl : d = .string := by cases d <;> simp [tyOf] at hty <;> rfl
      refine ⟨_, top, h_, Ext.refl _, step_val fun m a hinv he => ?_⟩
      have := ev_rel he mx hp
      generalize hv : a.eval x = v at this
      cases this with
      | d _ _ hx2 =>
        cases hx2
        exact ⟨_, ex a _ _ (by rw [hv]; simp [Builtin.len_, run_under hd, goInt]), rd_int _ _⟩
    · exact h_.elim
  | value f =>
    rw [hcl] at h
    dsimp only at h
    obtain ⟨p, hp, h⟩ := evK_ev h
    split at h
    case h_2 => exact h.elim
    rename_i g fs cs
    obtain ⟨aas, h, hl, hr⟩ := evsK_spec (ys := o.op.operands.toList) h (fun x hx => by rw [ho]; simp only [Op.operands, Call.operands, hcl, Array.toList_append]; exact List.mem_append_right _ hx)
    rw [appK_spec, appK_spec] at h
    have hvals : ∀ (m : M) (a : Act) (fv cv : Array Value), EvR m a tm o.op.operands.toList → fs.length = fv.size → cs.length = cv.size → (∀ (j : Nat) p v, fs[j]? = some p → fv[j]? = some v → RP m p v) → (∀ (j : Nat) p v, cs[j]? = some p → cv[j]? = some v → RP m p v) →
        (fs ++ aas ++ cs).length = (fv ++ c.args.map a.eval ++ cv).size ∧ ∀ (j : Nat) q u, (fs ++ aas ++ cs)[j]? = some q → (fv ++ c.args.map a.eval ++ cv)[j]? = some u → RP m q u := by
      intro m a fv cv he e1 e2 r1 r2
      refine ⟨by simp [e1, e2, hl], fun j q u hq hu => ?_⟩
      have hls : fs.length = fv.size := e1
      have hl2 : aas.length = c.args.size := by rw [hl]; simp
      rcases Nat.lt_or_ge j (fs ++ aas).length with h1 | h1
      · rw [List.getElem?_append_left h1] at hq
        rw [Array.getElem?_append_left (by simp only [List.length_append, Array.size_append, Array.size_map] at h1 ⊢; omega)] at hu
        rcases Nat.lt_or_ge j fs.length with h2 | h2
        · rw [List.getElem?_append_left h2] at hq
          rw [Array.getElem?_append_left (by omega)] at hu
          exact r1 j q u hq hu
        · rw [List.getElem?_append_right h2] at hq
          rw [Array.getElem?_append_right (by omega), Array.getElem?_map, ← hls] at hu
          obtain ⟨x, hx, rfl⟩ := Option.map_eq_some_iff.1 hu
          exact hr m a he _ q x hq (by simpa using hx)
      · rw [List.getElem?_append_right h1] at hq
        rw [Array.getElem?_append_right (by simp only [List.length_append, Array.size_append, Array.size_map] at h1 ⊢; omega)] at hu
        have hsz : (fv ++ c.args.map a.eval).size = (fs ++ aas).length := by simp [e1, hl2]
        rw [hsz] at hu
        exact r2 _ q u hq hu
    have mf : f ∈ o.op.operands.toList := by rw [ho]; simp [Op.operands, Call.operands, hcl]
    split at h
    · -- the comparison of bytes
      rename_i hg
      obtain ⟨k, hk1, hk2⟩ := List.any_eq_true.1 hg
      obtain rfl : g = k := Nat.eq_of_beq_eq_true hk2
      have hcmp := hC.cmps _ hk1
      unfold cmpK at h
      split at h
      case h_2 => exact h.elim
      rename_i xs ys hargs
      obtain ⟨bs1, bs2, rfl, rfl, h⟩ := h
      refine ⟨_, top, h, Ext.refl _, step_val fun m a hinv he => ?_⟩
      have hfv := ev_rel he mf hp
      generalize hv : a.eval f = v at hfv
      cases hfv with
      | func _ _ _ fv cv e1 e2 r1 r2 =>
        obtain ⟨q1, q2⟩ := hvals m a fv cv he e1 e2 r1 r2
        rw [hargs] at q1 q2
        obtain ⟨x, y, hxy⟩ : ∃ x y, fv ++ c.args.map a.eval ++ cv = #[x, y] := by
          generalize fv ++ c.args.map a.eval ++ cv = arr at q1
          obtain ⟨l⟩ := arr
          match l, q1 with
          | [x, y], _ => exact ⟨x, y, rfl⟩
        rw [hxy] at q2
        have rx := q2 0 _ x rfl rfl
        have ry := q2 1 _ y rfl rfl
        have bx : (Extern.Bytes.bytesOf x).run C.P m.w = .ok ⟨bs1.toArray⟩ m.w := run_bytesX rx
        have by_ : (Extern.Bytes.bytesOf y).run C.P m.w = .ok ⟨bs2.toArray⟩ m.w := run_bytesX ry
        refine ⟨_, ?_, rd_int _ _⟩
        simp only [execOp, ho, resolve, hcl, hv, Deferred.ofValue, Sem.run_bind, Sem.run_pure, Result.andThen_ok, invoke]
        rw [hxy, hcmp]
        rw [show Extern.BytealgCompare.compare #[x, y] = (do let a ← Extern.Bytes.bytesOf x; let b ← Extern.Bytes.bytesOf y; pure (goInt (Extern.BytealgCompare.cmp a b))) from rfl]
        simp [bx, by_, goInt]
    simp only [ifK] at h
    split at h
    case h_2 => exact h.elim
    rename_i hpl
    split at h
    · -- slices.Grow of nil
      rename_i e hgr
      have hgo := hC.grows (g, e) (growAt_mem hgr)
      unfold growK at h
      split at h
      case h_2 => exact h.elim
      rename_i k n hargs
      simp only [ifK] at h
      split at h
      case h_2 => exact h.elim
      rename_i hke
      obtain rfl := kEq_eq hke
      obtain ⟨h0, h_⟩ := h
      obtain ⟨r, hr, ht_, h⟩ := lookK_spec h_
      clear h_
      subst ht_
      split at h
      case h_2 => exact h.elim
      rename_i hpos
      have hpos : 0 < r.size := by simpa [Nat.blt_eq] using hpos
      rw [lenK_spec] at h
      split at h
      case h_2 => exact h.elim
      rename_i hzl
      have hzl := Nat.eq_of_beq_eq_true hzl
      obtain ⟨hby, h62, hk0, hk1⟩ := h
      obtain ⟨i, z, d, hi, hs, hb, hz, hzz, hd, hty⟩ := row_info hC hr
      have hzs : z.cells.size = r.size := by rw [← hzl, ← hzz]; simp
      obtain ⟨N, rfl⟩ : ∃ N : Nat, n = N := ⟨n.toNat, by omega⟩
      have two : ∀ (m : M) (a : Act) (fv cv : Array Value), EvR m a tm o.op.operands.toList → fs.length = fv.size → cs.length = cv.size → (∀ (j : Nat) p v, fs[j]? = some p → fv[j]? = some v → RP m p v) → (∀ (j : Nat) p v, cs[j]? = some p → cv[j]? = some v → RP m p v) →
          fv ++ c.args.map a.eval ++ cv = #[.slice none 0 0, .int .i64 N] := by
        intro m a fv cv he e1 e2 r1 r2
        obtain ⟨q1, q2⟩ := hvals m a fv cv he e1 e2 r1 r2
        rw [hargs] at q1 q2
        generalize fv ++ c.args.map a.eval ++ cv = arr at q1 q2
        obtain ⟨l⟩ := arr
        match l, q1, q2 with
        | [x, y], _, q2 =>
          have rx := q2 0 _ x rfl rfl
          have ry := q2 1 _ y rfl rfl
          cases rx
          cases ry with
          | d _ _ hy => cases hy; rfl
      have enter : ∀ (m : M) (a : Act), EvR m a tm o.op.operands.toList → (execOp a.eval o).run C.P m.w = .ok (.enter g #[.slice none 0 0, .int .i64 N]) m.w := by
        intro m a he
        have hfv := ev_rel he mf hp
        generalize hv : a.eval f = v at hfv
        cases hfv with
        | func _ _ _ fv cv e1 e2 r1 r2 =>
          simp only [execOp, ho, resolve, hcl, hv, Deferred.ofValue, Sem.run_bind, Sem.run_pure, Result.andThen_ok, invoke]
          rw [two m a fv cv he e1 e2 r1 r2]
          exact run_callFunc hC hpl _ _
      rcases Nat.eq_zero_or_pos N with hN | hN
      · subst hN
        refine ⟨_, top, hk0 rfl, Ext.refl _, fun m a hinv he hfree next Q hnext => ?_⟩
        unfold Oper.wp
        rw [enter m a he]
        show Calls C.P g _ m.w _
        refine ((hgo 0 m.w).1 rfl).mono ?_
        rintro e w' ⟨rfl, rfl⟩
        exact hnext _ m (Grow.refl m) (fun _ _ _ => rfl) (fun j u k h1 h2 => by omega) hinv .nils
      · have h := hk1 (by omega)
        unfold newK at h
        rw [lenK_spec, snocK_spec] at h
        refine ⟨_, _, h, Ext.app _ _, fun m a hinv he hfree next Q hnext => ?_⟩
        unfold Oper.wp
        rw [enter m a he]
        show Calls C.P g _ m.w _
        refine ((hgo N m.w).2 i z hi hz (by rw [hs]; exact hpos) (by rw [hzs, hs]) hN (by rw [hb]; have h9 := hby; rw [← Int.natCast_mul] at h9; omega) (by omega)).mono ?_
        rintro e w' ⟨cp, cur, rfl, rfl, hcur, hcap⟩
        have hfr : m.ρ 0 top.length = none := hfree _ (Nat.le_refl _) (by rw [List.length_append]; exact Nat.lt_succ_self _)
        let m1 : M := ⟨m.w.drew, m.ρ, m.U⟩
        have hK : Keep m m1 := ⟨fun _ _ _ h => h, Nat.le_refl _, fun k hk => ⟨hk.2, rfl⟩⟩
        have hinv1 : Inv m1 top H := ⟨fun l i b hb => (hinv.blk l i b hb).keep hK rfl (fun _ _ _ _ _ => rfl), hinv.inj, hinv.own, hinv.lt⟩
        have hg1 : Grow m m1 := ⟨rfl, rfl, rfl, Nat.le_refl _, fun _ _ => rfl, fun _ _ _ h => h, fun _ _ => Iff.rfl⟩
        have hg2 := grow_new m1 (.cells cur r.t (0, 0)) top.length (.slice (some ⟨m.w.heap.size, 0, none⟩) 0 cp) hfr
        refine hnext _ (m1.new (.cells cur r.t (0, 0)) top.length (.slice (some ⟨m.w.heap.size, 0, none⟩) 0 cp)) (hg1.trans hg2) (fun l j hj => ?_) (fun j u' k h1 h2 hu' hk => ?_) (inv_new hinv1 hfr rfl ?_) (.row _ _ _ 0 cp _ (by show (if 0 = 0 ∧ top.length = top.length then _ else _) = _; rw [if_pos ⟨rfl, rfl⟩]) (Nat.le_refl _) (Nat.zero_le _))
        · simp only [M.new]
          rw [if_neg]
          rintro ⟨rfl, rfl⟩
          exact hj ⟨rfl, Nat.le_refl _, by simp⟩
        · obtain rfl : j = top.length := by simp at h2; omega
          simp only [M.new, and_self, if_true, Option.some.injEq] at hu'
          subst hu'
          cases hk
          exact Nat.le_refl _
        · intro v hv
          simp only [M.new, and_self, if_true, Option.some.injEq] at hv
          subst hv
          refine ⟨hpos, (fun x hx => by cases hx), [], ⟨(Nat.zero_mul _).symm, .inr ⟨m.w.heap.size, cp, cur, rfl, Nat.zero_le _, ?_, Nat.zero_le _, hcap, by rw [hcur, hs], by rw [show ([] : List (List DV)).length * r.size = 0 from Nat.zero_mul _]; rfl⟩⟩, fun i x j y u hx => by simp at hx⟩
          exact heap_new m.w.drew _
    obtain ⟨pv, top', hk, hpre, hh⟩ := callK_spec h
    refine ⟨pv, top', hk, hpre, fun m a hinv he hfree next Q hnext => ?_⟩
    have hfv := ev_rel he mf hp
    generalize hv : a.eval f = v at hfv
    cases hfv with
    | func _ _ _ fv cv e1 e2 r1 r2 =>
      have hrun : (execOp a.eval o).run C.P m.w = .ok (.enter g (fv ++ c.args.map a.eval ++ cv)) m.w := by
        simp only [execOp, ho, resolve, hcl, hv, Deferred.ofValue, Sem.run_bind, Sem.run_pure, Result.andThen_ok, invoke]
        exact run_callFunc hC hpl _ _
      unfold Oper.wp
      rw [hrun]
      show Calls C.P g _ m.w _
      obtain ⟨q1, q2⟩ := hvals m a fv cv he e1 e2 r1 r2
      refine (hh m (fv ++ c.args.map a.eval ++ cv) hinv q1 q2 hfree).mono ?_
      · rintro e w' ⟨v, m', rfl, rfl, hg, hρ, hfr, hi, hr⟩
        exact hnext v m' hg hρ hfr hi hr
end Go.Proofs.Ve

/- What the value machine says of what turns memory is so: stores. -/
set_option linter.all false
namespace Go.Proofs.Ve
open Go

structure Turn (m m' : M) (top : List Blk) : Prop where
  os : m'.w.os = m.w.os
  tape : m'.w.tape = m.w.tape
  output : m'.w.output = m.w.output
  size : m.w.heap.size ≤ m'.w.heap.size
  heap : ∀ k, k < m.w.heap.size → ¬ Mine m top k → m'.w.heap[k]? = m.w.heap[k]?
  ρ : ∀ l i v, m.ρ l i = some v → m'.ρ l i = some v
  U : ∀ k, k < m.w.heap.size → (m'.U k ↔ m.U k)
theorem Turn.keep {m m' : M} {top : List Blk} {H : List (List Blk)} (h : Turn m m' top) (hi : Inv m top H) : Keep m m' :=
  ⟨h.ρ, h.size, fun k hk => ⟨fun hu => hk.2 ((h.U k hk.1).1 hu), h.heap k hk.1 (by
    rintro ⟨i, b, v, h1, h2, h3, h4⟩
    exact hk.2 (hi.own 0 i b v k h1 h2 h3 h4))⟩⟩
theorem Grow.turn {m m' : M} (h : Grow m m') (top : List Blk) : Turn m m' top := ⟨h.os, h.tape, h.output, h.size, fun k hk _ => h.heap k hk, h.ρ, h.U⟩

/-- What an operation that may turn memory comes to. -/
def ActStep (C : Cx) (H : List (List Blk)) (o : Oper) (tm : List PV) (top : List Blk) (pv : PV) (top' : List Blk) : Prop :=
  ∀ (m : M) (a : Act), Inv m top H → EvR m a tm o.op.operands.toList → (∀ j, top.length ≤ j → m.ρ 0 j = none) →
    ∀ (next : Act → World → Prop) (Q : Exit → Act → World → Prop),
      (∀ v m', Turn m m' top → (∀ l j, ¬ (l = 0 ∧ top.length ≤ j ∧ j < top'.length) → m'.ρ l j = m.ρ l j) →
        (∀ j u k, top.length ≤ j → j < top'.length → m'.ρ 0 j = some u → blkOf u = some k → m.w.heap.size ≤ k ∨ Mine m top k) → Inv m' top' H → RP m' pv v → next (a.put o.dst v) m'.w) →
      o.wp C.P a m.w next Q
theorem OpStep.act {C : Cx} {H : List (List Blk)} {o : Oper} {tm : List PV} {top : List Blk} {pv : PV} {top' : List Blk} (h : OpStep C H o tm top pv top') : ActStep C H o tm top pv top' :=
  fun m a hi he hf next Q hn => h m a hi he (fun j h1 _ => hf j h1) next Q fun v m' hg hρ hfr hi' hr => hn v m' (hg.turn top) hρ (fun j u k h1 h2 h3 h4 => .inl (hfr j u k h1 h2 h3 h4)) hi' hr

theorem getB_set_old {top : List Blk} {b : Blk} {H : List (List Blk)} {i0 l i : Nat} (h : ¬ (l = 0 ∧ i = i0)) : getB (top.set i0 b) H l i = getB top H l i := by
  cases l with
  | zero =>
    simp only [getB]
    rw [List.getElem?_set_ne (fun e => h ⟨rfl, e.symm⟩)]
  | succ l => rfl
/-- A block of the frame's is written, its name stays. -/
theorem inv_set {m : M} {top : List Blk} {H : List (List Blk)} (hi : Inv m top H) {i0 g : Nat} {b0 b : Blk} {v0 : Value} (hb0 : top[i0]? = some b0) (hl0 : b0.live = true) (hρ : m.ρ 0 i0 = some v0) (hg : blkOf v0 = some g) (hlive : b.live = true)
    {w' : World} (hos : w'.os = m.w.os) (htape : w'.tape = m.w.tape) (hout : w'.output = m.w.output) (hsz : w'.heap.size = m.w.heap.size) (hheap : ∀ k, k ≠ g → w'.heap[k]? = m.w.heap[k]?)
    (hb : Keep m ⟨w', m.ρ, m.U⟩ → BlkOk ⟨w', m.ρ, m.U⟩ 0 i0 b) : Turn m ⟨w', m.ρ, m.U⟩ top ∧ Inv ⟨w', m.ρ, m.U⟩ (top.set i0 b) H := by
  have hT : Turn m ⟨w', m.ρ, m.U⟩ top := ⟨hos, htape, hout, Nat.le_of_eq hsz.symm, fun k _ hk => hheap k (by
    rintro rfl
    exact hk ⟨i0, b0, v0, hb0, hl0, hρ, hg⟩), fun _ _ _ h => h, fun _ _ => Iff.rfl⟩
  have hK := hT.keep hi
  have hlt : i0 < top.length := (List.getElem?_eq_some_iff.1 hb0).1
  have get : ∀ l i b', getB (top.set i0 b) H l i = some b' → (l = 0 ∧ i = i0 ∧ b' = b) ∨ (¬ (l = 0 ∧ i = i0) ∧ getB top H l i = some b') := by
    intro l i b' hb'
    by_cases h : l = 0 ∧ i = i0
    · obtain ⟨rfl, rfl⟩ := h
      simp [getB, hlt] at hb'
      exact .inl ⟨rfl, rfl, hb'.symm⟩
    · rw [getB_set_old h] at hb'
      exact .inr ⟨h, hb'⟩
  have old : ∀ l i b', getB (top.set i0 b) H l i = some b' → b'.live = true → ∃ b'', getB top H l i = some b'' ∧ b''.live = true := by
    intro l i b' hb' hl'
    rcases get l i b' hb' with ⟨rfl, rfl, rfl⟩ | ⟨_, h⟩
    · exact ⟨b0, hb0, hl0⟩
    · exact ⟨b', h, hl'⟩
  refine ⟨hT, fun l i b' hb' => ?_, fun l i b1 l' i' b2 v1 v2 k h1 hl1 h2 hl2 hv1 hv2 hk1 hk2 => ?_, fun l i b1 v1 k h1 hl1 hv1 hk => ?_, fun k hk => by rw [show (⟨w', m.ρ, m.U⟩ : M).w.heap.size = m.w.heap.size from hsz]; exact hi.lt k hk⟩
  · rcases get l i b' hb' with ⟨rfl, rfl, rfl⟩ | ⟨hn, h⟩
    · exact hb hK
    · refine (hi.blk l i b' h).keep hK rfl (fun v k hl hv hk => hheap k ?_)
      rintro rfl
      exact hn (hi.inj l i b' 0 i0 b0 v v0 k h hl hb0 hl0 hv hρ hk hg)
  · obtain ⟨c1, hc1, hd1⟩ := old l i b1 h1 hl1
    obtain ⟨c2, hc2, hd2⟩ := old l' i' b2 h2 hl2
    exact hi.inj l i c1 l' i' c2 v1 v2 k hc1 hd1 hc2 hd2 hv1 hv2 hk1 hk2
  · obtain ⟨c1, hc1, hd1⟩ := old l i b1 h1 hl1
    exact hi.own l i c1 v1 k hc1 hd1 hv1 hk

theorem allCellK_spec : ∀ {cs : List PV} {K : Prop}, allCellK cs K → (∀ q ∈ cs, q.cell = true) ∧ K
  | [], K, h => ⟨fun q hq => (by cases hq), h⟩
  | c :: cs, K, h => by
    rw [allCellK_cons] at h
    split at h
    · rename_i hc
      obtain ⟨h1, h2⟩ := allCellK_spec h
      exact ⟨fun q hq => by cases hq with | head => exact hc | tail _ hq => exact h1 q hq, h2⟩
    · exact h.elim
theorem seg_get {α : Type} {l ys : List α} {o : Nat} (h : o + ys.length ≤ l.length) (k : Nat) : (l.take o ++ ys ++ l.drop (o + ys.length))[k]? = if o ≤ k ∧ k < o + ys.length then ys[k - o]? else l[k]? := by
  by_cases hk : o ≤ k ∧ k < o + ys.length
  · rw [if_pos hk, List.append_assoc, List.getElem?_append_right (by rw [List.length_take]; omega), List.length_take, Nat.min_eq_left (by omega), List.getElem?_append_left (by omega)]
  · rw [if_neg hk]
    rcases Nat.lt_or_ge k o with h1 | h1
    · rw [List.append_assoc, List.getElem?_append_left (by rw [List.length_take]; omega), List.getElem?_take_of_lt h1]
    · rw [List.getElem?_append_right (by simp; omega)]
      simp only [List.length_append, List.length_take, List.getElem?_drop]
      rw [Nat.min_eq_left (by omega), show o + ys.length + (k - (o + ys.length)) = k by omega]

theorem store_step {C : Cx} (hC : C.Ok) {H : List (List Blk)} {o : Oper} {t : Nat} {x y : Operand} (ho : o.op = .store t x y) {tm : List PV} {top : List Blk} {p q : PV} (hp : ev? tm x = some p) (hq : ev? tm y = some q) {K : List Blk → Prop}
    (h : storeK C top t p q K) : ∃ top', K top' ∧ top'.length = top.length ∧ GenLe top top' ∧ ActStep C H o tm top .any top' := by
  have mx : x ∈ o.op.operands.toList := by simp [ho, Op.operands]
  have my : y ∈ o.op.operands.toList := by simp [ho, Op.operands]
  obtain ⟨r, hr, ht_, h_⟩ := lookK_spec h
  clear h
  subst ht_
  obtain ⟨ii, z, d, hii, hs, hb, hz, hzz, hd, hty⟩ := row_info hC hr
  obtain ⟨cs, h, hcell, hcs⟩ := cells_rel h_
  obtain ⟨_, h⟩ := allCellK_spec h
  rw [lenK_spec] at h
  simp only [ifK] at h
  split at h
  case h_2 => exact h.elim
  rename_i hn
  have hn := Nat.eq_of_beq_eq_true hn
  -- the run
  have run : ∀ (m : M) (a : Act) (g o' : Nat) (cur : Array Value) (e : Nat), a.eval x = .pointer (some ⟨g, o', none⟩) → RP m q (a.eval y) → m.w.heap[g]? = some (.cells cur e (0, 0)) → o' + r.size ≤ cur.size →
      (execOp a.eval o).run C.P m.w = .ok .skip (m.w.setRow g (cur.toList.take o' ++ (a.eval y).cells.toList ++ cur.toList.drop (o' + (a.eval y).cells.toList.length)).toArray) := by
    intro m a g o' cur e hv hrq hg hle
    obtain ⟨hsz, hrel⟩ := hcs m _ hrq
    have h1 : ∀ u ∈ (a.eval y).cells.toList, u.oneCell' = true := by
      intro u hu
      obtain ⟨j, hj⟩ := List.mem_iff_getElem?.1 hu
      have hjl : j < cs.length := by rw [← hsz]; simpa using (List.getElem?_eq_some_iff.1 hj).1
      exact (hrel j _ u (List.getElem?_eq_getElem hjl) (by simpa using hj)).one (hcell _ (List.getElem_mem _))
    have := run_storeCells_at (P := C.P) g o' e (a.eval y).cells.toList 0 cur m.w hg (by simp [hsz]; omega) h1
    simp only [execOp, ho, Instr.storeAt, Instr.sureAddr, hv, storeVar, Sem.run_bind, Sem.run_pure, Result.andThen_ok, run_size hii, hs]
    rw [if_neg (by omega)]
    simp only [this, Result.andThen_ok, Nat.add_zero]
  cases p with
  | ptr l i o' =>
    cases l with
    | succ l => exact h.elim
    | zero =>
      obtain ⟨b, hb0, h⟩ := getK_spec.1 h
      cases b with
      | box bs =>
        obtain ⟨hle, h⟩ := putK_spec.1 h
        obtain ⟨hlt, h⟩ := setK_spec.1 h
        refine ⟨_, h, by simp, GenLe.set hb0 rfl rfl, fun m a hi he hf next Q hnext => ?_⟩
        have hpx := ev_rel he mx hp
        have hqy := ev_rel he my hq
        generalize hv : a.eval x = v at hpx
        cases hpx with
        | ptr _ _ _ g hρ =>
          obtain ⟨g', vs, e, hg', hg, hs2, hrel0⟩ := hi.blk 0 i _ hb0 _ hρ
          cases hg'
          obtain ⟨hsz, hrel⟩ := hcs m _ hqy
          have hr0 := run m a g o' vs e hv hqy hg (by omega)
          have hcl : (a.eval y).cells.toList.length = cs.length := by rw [Array.length_toList]; exact hsz
          have hvl : vs.toList.length = bs.length := by rw [Array.length_toList]; exact hs2
          unfold Oper.wp
          rw [hr0]
          have hset := inv_set hi hb0 rfl hρ rfl (b := .box (bs.take o' ++ cs ++ bs.drop (o' + cs.length))) rfl
            (w' := m.w.setRow g (vs.toList.take o' ++ (a.eval y).cells.toList ++ vs.toList.drop (o' + (a.eval y).cells.toList.length)).toArray) rfl rfl rfl (by simp) (fun k hk => setRow_other _ _ _ _ hk) (fun hK => by
              intro v' hv'
              rw [show (⟨_, m.ρ, m.U⟩ : M).ρ 0 i = m.ρ 0 i from rfl, hρ] at hv'
              cases hv'
              refine ⟨g, _, e, rfl, setRow_heap _ _ _ _ _ _ hg, ?_, fun j p u hp hu => ?_⟩
              · simp [hsz]; omega
              · rw [seg_get hle] at hp
                simp only [List.getElem?_toArray] at hu
                rw [seg_get (by rw [hcl, hvl]; exact hle), hcl] at hu
                split at hp
                · rename_i hjj
                  rw [if_pos hjj] at hu
                  exact (hrel _ p u hp (by simpa using hu)).keep hK
                · rename_i hjj
                  rw [if_neg hjj] at hu
                  exact (hrel0 j p u hp (by simpa using hu)).keep (hK.up 0))
          exact hnext _ _ hset.1 (fun _ _ _ => rfl) (fun j u k h1 h2 => by simp at h2; omega) hset.2 (.any _)
      | dead => exact h.elim
      | gen Y st => exact h.elim
      | row e sz xs => exact h.elim
  | rptr l i sz e j =>
    cases l with
    | succ l => exact h.elim
    | zero =>
      obtain ⟨b, hb0, h⟩ := getK_spec.1 h
      cases b with
      | row t' sz' xs =>
        simp only at h
        split at h
        case h_2 => exact h.elim
        rename_i hszz
        have h9 := h
        clear h
        obtain rfl := Nat.eq_of_beq_eq_true hszz
        obtain ⟨ds, h9, hdl, hds⟩ := dvsK_spec h9
        obtain ⟨x0, hx0, h9⟩ := h9
        obtain ⟨hle, h9⟩ := putK_spec.1 h9
        obtain ⟨hlt, h9⟩ := setK_spec.1 h9
        refine ⟨_, h9, by simp, GenLe.set hb0 rfl rfl, fun m a hi he hf next Q hnext => ?_⟩
        have hpx := ev_rel he mx hp
        have hqy := ev_rel he my hq
        generalize hv : a.eval x = v at hpx
        cases hpx with
        | rptr _ _ _ _ _ g N c hρ =>
          obtain ⟨hp0, hxs, flat, hown, hrel0⟩ := hi.blk 0 i _ hb0 _ hρ
          obtain ⟨hsz, hrel⟩ := hcs m _ hqy
          have hcl : (a.eval y).cells.toList.length = cs.length := by rw [Array.length_toList]; exact hsz
          have hel : e < xs.length := (List.getElem?_eq_some_iff.1 hx0).1
          have hxl : x0.length = sz' := hxs x0 (List.mem_of_getElem? hx0)
          obtain ⟨hfl, hform⟩ := hown
          rcases hform with ⟨h1, _⟩ | ⟨g', cap, cur, h1, hbase, hg, hcap, hmax, hcur, htake⟩
          · cases h1
          · simp only [Value.slice.injEq, Option.some.injEq, Addr.mk.injEq] at h1
            obtain ⟨⟨rfl, _⟩, rfl, rfl⟩ := h1
            have hee : e * sz' + sz' ≤ xs.length * sz' := by rw [← Nat.succ_mul]; exact Nat.mul_le_mul_right _ hel
            have hcc : xs.length * sz' ≤ c * sz' := Nat.mul_le_mul_right _ hcap
            have hcurl : cur.toList.length = c * sz' := by rw [Array.length_toList]; exact hcur
            have hr0 := run m a g (e * sz' + j) cur t' hv hqy hg (by omega)
            unfold Oper.wp
            rw [hr0]
            have hset := inv_set hi hb0 rfl hρ rfl (b := .row t' sz' (xs.set e (x0.take j ++ ds ++ x0.drop (j + ds.length)))) rfl
              (w' := m.w.setRow g (cur.toList.take (e * sz' + j) ++ (a.eval y).cells.toList ++ cur.toList.drop (e * sz' + j + (a.eval y).cells.toList.length)).toArray) rfl rfl rfl (by simp) (fun k hk => setRow_other _ _ _ _ hk) (fun hK => by
                intro v' hv'
                rw [show (⟨_, m.ρ, m.U⟩ : M).ρ 0 i = m.ρ 0 i from rfl, hρ] at hv'
                cases hv'
                refine ⟨hp0, fun x1 hx1 => ?_, (cur.toList.take (e * sz' + j) ++ (a.eval y).cells.toList ++ cur.toList.drop (e * sz' + j + (a.eval y).cells.toList.length)).take (xs.length * sz'), ⟨?_, .inr ⟨g, c, _, by rw [List.length_set], Nat.zero_le _, setRow_heap _ _ _ _ _ _ hg, by simpa using hcap, hmax, ?_, ?_⟩⟩, fun i1 x1 j1 y1 u1 hx1 hy1 hu1 => ?_⟩
                · rcases List.mem_or_eq_of_mem_set hx1 with h2 | h2
                  · exact hxs x1 h2
                  · rw [h2]; simp; omega
                · rw [List.length_take]; simp [hsz]; omega
                · simp [hsz]; omega
                · simp
                · have hi1 : i1 < xs.length := by simpa using (List.getElem?_eq_some_iff.1 hx1).1
                  have hx1l : x1.length = sz' := by
                    rcases List.mem_or_eq_of_mem_set (List.mem_of_getElem? hx1) with h2 | h2
                    · exact hxs x1 h2
                    · rw [h2]; simp; omega
                  have hj1 : j1 < sz' := by rw [← hx1l]; exact (List.getElem?_eq_some_iff.1 hy1).1
                  have hpos : i1 * sz' + j1 < xs.length * sz' := by
                    have : i1 * sz' + sz' ≤ xs.length * sz' := by rw [← Nat.succ_mul]; exact Nat.mul_le_mul_right _ hi1
                    omega
                  rw [List.getElem?_take_of_lt hpos, seg_get (by rw [hcl, hcurl]; omega), hcl] at hu1
                  have hfe : ∀ k, k < xs.length * sz' → flat[k]? = cur[k]? := fun k hk => by rw [← htake, List.getElem?_take_of_lt hk]; simp
                  by_cases hie : i1 = e
                  · subst hie
                    have hx1' : x1 = x0.take j ++ ds ++ x0.drop (j + ds.length) := by
                      rw [List.getElem?_set_self hi1] at hx1; cases hx1; rfl
                    rw [hx1', seg_get hle] at hy1
                    by_cases hjj : j ≤ j1 ∧ j1 < j + ds.length
                    · rw [if_pos hjj] at hy1
                      rw [if_pos (by omega), show i1 * sz' + j1 - (i1 * sz' + j) = j1 - j by omega] at hu1
                      have hu2 : ((a.eval y).cells[j1 - j]?).getD undef = u1 := by
                        rw [show (a.eval y).cells[j1 - j]? = some u1 by simpa using hu1]; rfl
                      have := hds m (fun k => ((a.eval y).cells[k]?).getD undef) (fun k p' hp' => by
                        have hkl : k < cs.length := (List.getElem?_eq_some_iff.1 hp').1
                        have hk2 : (a.eval y).cells[k]? = some ((a.eval y).cells[k]'(by omega)) := Array.getElem?_eq_getElem (by omega)
                        rw [hk2]
                        exact hrel k p' _ hp' hk2) (j1 - j) y1 hy1
                      simp only [hu2] at this
                      exact this.keep hK
                    · rw [if_neg hjj] at hy1
                      rw [if_neg (by omega)] at hu1
                      refine (hrel0 i1 x0 j1 y1 u1 hx0 hy1 ?_).keep hK
                      rw [hfe _ hpos]; simpa using hu1
                  · rw [List.getElem?_set_ne (Ne.symm hie)] at hx1
                    have hne : ¬ (e * sz' + j ≤ i1 * sz' + j1 ∧ i1 * sz' + j1 < e * sz' + j + cs.length) := by
                      rintro ⟨h3, h4⟩
                      rcases Nat.lt_or_ge i1 e with h5 | h5
                      · have : i1 * sz' + sz' ≤ e * sz' := by rw [← Nat.succ_mul]; exact Nat.mul_le_mul_right _ h5
                        omega
                      · have : e * sz' + sz' ≤ i1 * sz' := by rw [← Nat.succ_mul]; exact Nat.mul_le_mul_right _ (by omega)
                        omega
                    rw [if_neg hne] at hu1
                    refine (hrel0 i1 x1 j1 y1 u1 hx1 hy1 ?_).keep hK
                    rw [hfe _ hpos]; simpa using hu1)
            exact hnext _ _ hset.1 (fun _ _ _ => rfl) (fun j u k h1 h2 => by simp at h2; omega) hset.2 (.any _)
      | dead => exact h.elim
      | gen Y st => exact h.elim
      | box cs => exact h.elim
  | any => exact h.elim
  | kb b => exact h.elim
  | ub => exact h.elim
  | d x => exact h.elim
  | nils => exact h.elim
  | emp => exact h.elim
  | row l i n => exact h.elim
  | iptr cs => exact h.elim
  | func fn a b => exact h.elim
  | agg cs => exact h.elim
  | tuple cs => exact h.elim
  | yld Y => exact h.elim
end Go.Proofs.Ve

/- What the value machine says of what turns memory is so: append. -/
set_option linter.all false
namespace Go.Proofs.Ve
open Go

theorem newsK_spec {top : List Blk} {sz : Nat} (h0 : 0 < sz) {x : PV} {K : List (List DV) → Prop} (h : newsK top sz x K) :
    ∃ ys, K ys ∧ ∀ (m : M) (H : List (List Blk)) v, Inv m top H → RP m x v → ∃ (A : Option Addr) (n c : Nat) (news : List Value), v = .slice A n c ∧ n = ys.length ∧ news.length = n * sz ∧ (A = none → n = 0) ∧ (∀ y ∈ ys, y.length = sz) ∧
      (∀ a, A = some a → ∀ (j : Nat) u, news[j]? = some u → m.w.cell? (a.add j) = some u) ∧ (∀ u ∈ news, u.oneCell' = true) ∧
      ∀ (i : Nat) y (j : Nat) z u, ys[i]? = some y → y[j]? = some z → news[i * sz + j]? = some u → RD m.w m.ok z u := by
  unfold newsK at h
  split at h
  · refine ⟨[], h, fun m H v _ hv => ?_⟩
    cases hv
    exact ⟨none, 0, 0, [], rfl, rfl, by simp, (fun _ => rfl), by simp, (fun a ha => by cases ha), by simp, (fun i y j z u hy => by simp at hy)⟩
  · refine ⟨[], h, fun m H v _ hv => ?_⟩
    cases hv with
    | emp ad => exact ⟨some ad, 0, 0, [], rfl, rfl, by simp, (fun h => by cases h), by simp, (fun a ha j u hu => by simp at hu), by simp, (fun i y j z u hy => by simp at hy)⟩
  · rename_i ys
    obtain ⟨hys, h⟩ := h
    refine ⟨ys, h, fun m H v _ hv => ?_⟩
    cases hv with
    | d _ _ hv =>
      cases hv with
      | sl sz' _ A n c ad u hn hc hm hA hsz hcell hr =>
        have e : 0 < n → sz' = sz := fun hp => by
          obtain ⟨y, hy⟩ : ∃ y, y ∈ ys := ⟨ys[0]'(by omega), List.getElem_mem _⟩
          rw [← hsz y hy, hys y hy]
        have key : ∀ j, j < n * sz → ∃ i j' y z, j = i * sz + j' ∧ ys[i]? = some y ∧ y[j']? = some z := by
          intro j hj
          have hi : j / sz < n := Nat.div_lt_of_lt_mul (by rw [Nat.mul_comm]; exact hj)
          have hj' : j % sz < sz := Nat.mod_lt _ h0
          have h1 : ys[j / sz]? = some (ys[j / sz]'(by omega)) := List.getElem?_eq_getElem _
          have h2 : (ys[j / sz]'(by omega)).length = sz := hys _ (List.getElem_mem _)
          exact ⟨j / sz, j % sz, _, _, by rw [Nat.mul_comm]; exact (Nat.div_add_mod j sz).symm, h1, List.getElem?_eq_getElem (by omega)⟩
        refine ⟨A, n, c, (List.range (n * sz)).map u, rfl, hn.symm, by simp, fun hA0 => ?_, hys, fun a ha j w hw => ?_, fun w hw => ?_, fun i y j z w hy hz hw => ?_⟩
        · rcases Nat.eq_zero_or_pos n with h | h
          · exact h
          · rw [hA h] at hA0; cases hA0
        · have hj : j < n * sz := by simpa using (List.getElem?_eq_some_iff.1 hw).1
          simp [hj] at hw
          have hp : 0 < n := by rcases Nat.eq_zero_or_pos n with h | h; (rw [h] at hj; omega); exact h
          obtain ⟨i, j', y, z, rfl, hy, hz⟩ := key j hj
          rw [hA hp] at ha
          cases ha
          have := (hcell i y j' z hy hz).2
          rw [e hp] at this
          rw [this, hw]
        · simp only [List.mem_map, List.mem_range] at hw
          obtain ⟨j, hj, rfl⟩ := hw
          have hp : 0 < n := by rcases Nat.eq_zero_or_pos n with h | h; (rw [h] at hj; omega); exact h
          obtain ⟨i, j', y, z, rfl, hy, hz⟩ := key j hj
          have := hr i y j' z hy hz
          rw [e hp] at this
          exact this.one
        · have hi : i < n := by rw [← hn]; exact (List.getElem?_eq_some_iff.1 hy).1
          have hjl : i * sz + j < n * sz := by simpa using (List.getElem?_eq_some_iff.1 hw).1
          simp [hjl] at hw
          subst hw
          have := hr i y j z hy hz
          rw [e (by omega)] at this
          exact this
  · rename_i j n
    obtain ⟨b, hb, h⟩ := getK_spec.1 h
    split at h
    case h_2 => exact h.elim
    rename_i e0 sz' ys
    simp only [ifK] at h
    split at h
    case h_2 => exact h.elim
    rename_i hsz
    have hszz := Nat.eq_of_beq_eq_true hsz
    refine ⟨ys.take n, h, fun m H v hi hv => ?_⟩
    cases hv with
    | row _ _ _ N c A hρ hn hc =>
      obtain ⟨hp, hxs, flat, ho, hrd⟩ := hi.blk 0 j _ hb _ hρ
      subst hszz
      have hN : N = ys.length := by
        rcases ho.2 with ⟨h1, h2⟩ | ⟨g, cap, cur, h1, _⟩
        · simp only [Value.slice.injEq] at h1; omega
        · simp only [Value.slice.injEq] at h1; exact h1.2.1
      have hfl : flat.length = ys.length * sz' := ho.1
      have hlt : n * sz' ≤ flat.length := by rw [hfl]; exact Nat.mul_le_mul_right _ (by omega)
      have hone : ∀ u ∈ flat, u.oneCell' = true := by
        intro u hu
        obtain ⟨k, hk⟩ := List.mem_iff_getElem?.1 hu
        have hkl : k < ys.length * sz' := by rw [← hfl]; exact (List.getElem?_eq_some_iff.1 hk).1
        have hi2 : k / sz' < ys.length := Nat.div_lt_of_lt_mul (by rw [Nat.mul_comm]; exact hkl)
        obtain ⟨y0, h1⟩ : ∃ y0, ys[k / sz']? = some y0 := ⟨_, List.getElem?_eq_getElem hi2⟩
        have h2 : y0.length = sz' := hxs _ (List.mem_of_getElem? h1)
        exact (hrd (k / sz') _ (k % sz') _ u h1 (List.getElem?_eq_getElem (by rw [h2]; exact Nat.mod_lt _ hp)) (by rw [Nat.mul_comm, Nat.div_add_mod]; exact hk)).one
      refine ⟨A, n, c, flat.take (n * sz'), rfl, by rw [List.length_take]; omega, by rw [List.length_take]; omega, fun hA0 => ?_, fun y hy => hxs y (List.mem_of_mem_take hy), fun a ha k u hu => ?_, fun u hu => hone u (List.mem_of_mem_take hu), fun i y j' z u hy hz hu => ?_⟩
      · subst hA0
        rcases ho.2 with ⟨h1, h2⟩ | ⟨g, cap, cur, h1, _⟩
        · omega
        · cases h1
      · subst ha
        have hk : k < n * sz' := by
          rcases Nat.lt_or_ge k (n * sz') with h1 | h1
          · exact h1
          · rw [List.getElem?_eq_none (by rw [List.length_take]; omega)] at hu; cases hu
        rw [List.getElem?_take_of_lt hk] at hu
        have := ho.cells (g := a.block) rfl k u hu
        rcases ho.2 with ⟨h1, _⟩ | ⟨g, cap, cur, h1, _⟩
        · cases h1
        · simp only [Value.slice.injEq, Option.some.injEq] at h1
          obtain ⟨rfl, _⟩ := h1
          exact this
      · have hin : i < n := by
          rcases Nat.lt_or_ge i n with h1 | h1
          · exact h1
          · rw [List.getElem?_eq_none (by rw [List.length_take]; omega)] at hy; cases hy
        rw [List.getElem?_take_of_lt hin] at hy
        have hk : i * sz' + j' < n * sz' := by
          rcases Nat.lt_or_ge (i * sz' + j') (n * sz') with h1 | h1
          · exact h1
          · rw [List.getElem?_eq_none (by rw [List.length_take]; omega)] at hu; cases hu
        rw [List.getElem?_take_of_lt hk] at hu
        exact hrd i y j' z u hy hz hu
  · exact h.elim

/-- The run of append, onto a row of one's own. -/
theorem run_append_any {P : Program} {w : World} {t ty e : TypeId} {i : TypeInfo} {z : Value} {size bytes : Nat} (ht : P.underlying t = some (.slice e)) (hi : P.info? e = some i) (hz : i.zero = some z)
    (hsize : i.size = size) (hby : i.bytes = bytes) (hzs : z.cells.size = size) (hsz : 0 < size) (hb0 : 0 < bytes) {v : Value} {n : Nat} {xs : List Value} (hown : w.ownsRow 0 e size v n xs)
    {A : Option Addr} {m c : Nat} {news : List Value} (hl : news.length = m * size) (hA : A = none → m = 0) (hnews : ∀ a, A = some a → ∀ (j : Nat) u, news[j]? = some u → w.cell? (a.add j) = some u) (h1 : ∀ u ∈ news, u.oneCell' = true)
    (hbytes : (n + m) * bytes ≤ 140737488355328) :
    ∃ v' w', (Builtin.append_ #[t, t] ty #[v, .slice A m c]).run P w = .ok v' w' ∧ w'.ownsRow 0 e size v' (n + m) (xs ++ news) ∧ w.grownBy w' v.ownBlock ∧ (v'.ownBlock = v.ownBlock ∨ v'.ownBlock = some w.heap.size) := by
  have h63 : n + m ≤ maxLen := by
    unfold maxLen
    have : n + m ≤ (n + m) * bytes := Nat.le_mul_of_pos_right _ hb0
    omega
  cases A with
  | some a =>
    obtain ⟨v', w', h2, h3, h4, _, h5⟩ := run_append_own_at (P := P) w 0 t ty e i z size bytes ht hi hz hsize hby hzs hsz v n xs hown a m c news hl (hnews a rfl) h1 h63 hbytes (Nat.zero_le _)
    exact ⟨v', w', h2, h3, h4, h5⟩
  | none =>
    obtain rfl := hA rfl
    obtain rfl : news = [] := List.eq_nil_of_length_eq_zero (by simpa using hl)
    refine ⟨v, w, ?_, by simpa using hown, ⟨rfl, rfl, rfl, Nat.le_refl _, fun _ _ _ => rfl⟩, .inl rfl⟩
    rcases hown.2 with ⟨rfl, hn⟩ | ⟨g, cap, cur, rfl, _, _, hnc, _⟩
    · simp [Builtin.append_, run_under ht, sizeOf, typeInfo, hi, Builtin.lenOf, Builtin.firstCells]
    · simp [Builtin.append_, run_under ht, sizeOf, typeInfo, hi, Builtin.lenOf, Builtin.firstCells, hnc, storeCells]

/-- Onto a row of no elements, without room: as onto nil; nothing: as it was. -/
theorem run_append_emp {P : Program} {w : World} {t ty e : TypeId} {i : TypeInfo} (ht : P.underlying t = some (.slice e)) (hi : P.info? e = some i) (ad : Addr) {A : Option Addr} {m c : Nat} (hm : 0 < m) (hb0 : 0 < i.bytes) (hbytes : m * i.bytes ≤ 140737488355328) :
    (Builtin.append_ #[t, t] ty #[.slice (some ad) 0 0, .slice A m c]).run P w = (Builtin.append_ #[t, t] ty #[.slice none 0 0, .slice A m c]).run P w := by
  have hm' : ¬ m = 0 := by omega
  have hz : ¬ i.bytes = 0 := by omega
  have hn : Builtin.nextslicecap m 0 = m := by unfold Builtin.nextslicecap; simp; try omega
  have hbig : ¬ 281474976710656 < m * i.bytes := by omega
  simp [Builtin.append_, run_under ht, sizeOf, typeInfo, hi, Builtin.lenOf, Builtin.firstCells, loadCells, loadCellsFrom, hm', hz, hn, hbig]
theorem run_append_emp0 {P : Program} {w : World} {t ty e : TypeId} {i : TypeInfo} (ht : P.underlying t = some (.slice e)) (hi : P.info? e = some i) (ad : Addr) {A : Option Addr} {c : Nat} :
    (Builtin.append_ #[t, t] ty #[.slice (some ad) 0 0, .slice A 0 c]).run P w = .ok (.slice (some ad) 0 0) w := by
  cases A <;> simp [Builtin.append_, run_under ht, sizeOf, typeInfo, hi, Builtin.lenOf, Builtin.firstCells, loadCells, loadCellsFrom, storeCells]
theorem ownBlock_blkOf (v : Value) (h : ∃ A n c, v = .slice A n c) : v.ownBlock = blkOf v := by
  obtain ⟨A, n, c, rfl⟩ := h
  cases A <;> rfl
theorem owns_slice {w : World} {base e size n : Nat} {v : Value} {xs : List Value} (h : w.ownsRow base e size v n xs) : ∃ A c, v = .slice A n c ∧ n ≤ c := by
  rcases h.2 with ⟨rfl, rfl⟩ | ⟨g, cap, cur, rfl, _, _, h1, _⟩
  · exact ⟨none, 0, rfl, Nat.le_refl _⟩
  · exact ⟨_, cap, rfl, h1⟩

theorem append_step {C : Cx} (hC : C.Ok) {H : List (List Blk)} {o : Oper} {c : Call} (ho : o.op = .call c) (hcl : c.callee = .builtin .append) {x y : Operand} {t : TypeId} (hx : c.args = #[x, y]) (ht : c.argTypes = #[t, t]) {tm : List PV} {top : List Blk} {p q : PV}
    (hp : ev? tm x = some p) (hq : ev? tm y = some q) {K : PV → List Blk → Prop} (h : appendK C top t p q K) : ∃ pv top', K pv top' ∧ top.length ≤ top'.length ∧ GenLe top top' ∧ ActStep C H o tm top pv top' ∧ (p = .emp → top <+: top' ∧ OpStep C H o tm top pv top') := by
  have mx : x ∈ o.op.operands.toList := by rw [ho]; simp [Op.operands, Call.operands, hcl, hx]
  have my : y ∈ o.op.operands.toList := by rw [ho]; simp [Op.operands, Call.operands, hcl, hx]
  obtain ⟨r, hr, ht_, h_⟩ := lookK_spec h
  clear h
  subst ht_
  obtain ⟨i1, z1, d, hi1, hs1, hb1, hz1, hzz1, hd, hty⟩ := row_info hC hr
  split at h_
  case h_2 => exact h_.elim
  rename_i e hty0
  obtain ⟨r', hr', ht_, h⟩ := lookK_spec h_
  clear h_
  subst ht_
  obtain ⟨i2, z2, d2, hi2, hs2, hb2, hz2, hzz2, hd2, hty2⟩ := row_info hC hr'
  rw [hty0] at hty
  obtain ⟨e, rfl⟩ : ∃ e, d = .slice e := by cases d <;> simp [tyOf] at hty <;> exact ⟨_, rfl⟩
  simp only [tyOf, Ty.slice.injEq] at hty
  subst hty
  simp only [ifK] at h
  split at h
  case h_2 => exact h.elim
  rename_i hpos
  have hpos : 0 < r'.size := by simpa [Nat.blt_eq] using hpos
  split at h
  case h_2 => exact h.elim
  rename_i hbp
  have hbp : 0 < r'.bytes := by simpa [Nat.blt_eq] using hbp
  rw [lenK_spec] at h
  split at h
  case h_2 => exact h.elim
  rename_i hzl
  have hzl := Nat.eq_of_beq_eq_true hzl
  have hzs : z2.cells.size = r'.size := by rw [← hzl, ← hzz2]; simp
  obtain ⟨ys, h, hnews⟩ := newsK_spec hpos h
  have ex : ∀ (a : Act) (w w' : World) (v : Value), (Builtin.append_ #[r.t, r.t] o.type #[a.eval x, a.eval y]).run C.P w = .ok v w' → (execOp a.eval o).run C.P w = .ok (.value v) w' := fun a w w' v hv => by
    simp [execOp, ho, resolve, hcl, hx, ht, invoke, builtin, hv]
  -- what a new row comes to, the elder one (if any) being dead
  have fin : ∀ (m : M) (top1 : List Blk) (xs : List (List DV)) (flat : List Value) (s : Value) (v' : Value) (w' : World) (news : List Value), Inv m top H → (∀ j, top.length ≤ j → m.ρ 0 j = none) → top1.length = top.length →
      (∀ l i b, getB top1 H l i = some b → b.live = true → getB top H l i = some b ∧ ∀ v, m.ρ l i = some v → ∀ k, blkOf v = some k → s.ownBlock ≠ some k) →
      (∀ k, s.ownBlock = some k → Mine m top k) → w'.ownsRow 0 r'.t r'.size v' (xs.length + ys.length) (flat ++ news) → flat.length = xs.length * r'.size → m.w.grownBy w' s.ownBlock → (v'.ownBlock = s.ownBlock ∨ v'.ownBlock = some m.w.heap.size) →
      (∀ x ∈ xs, x.length = r'.size) → (∀ y ∈ ys, y.length = r'.size) → (∀ (i : Nat) x (j : Nat) y u, xs[i]? = some x → x[j]? = some y → flat[i * r'.size + j]? = some u → RD m.w m.ok y u) →
      (∀ (i : Nat) y (j : Nat) z u, ys[i]? = some y → y[j]? = some z → news[i * r'.size + j]? = some u → RD m.w m.ok z u) →
      ∀ (next : Act → World → Prop) (Q : Exit → Act → World → Prop) (a : Act), (execOp a.eval o).run C.P m.w = .ok (.value v') w' →
        (∀ v m', Turn m m' top → (∀ l j, ¬ (l = 0 ∧ top.length ≤ j ∧ j < top.length + 1) → m'.ρ l j = m.ρ l j) →
          (∀ j u k, top.length ≤ j → j < top.length + 1 → m'.ρ 0 j = some u → blkOf u = some k → m.w.heap.size ≤ k ∨ Mine m top k) → Inv m' (top1 ++ [.row r'.t r'.size (xs ++ ys)]) H → RP m' (.row 0 top.length (xs.length + ys.length)) v → next (a.put o.dst v) m'.w) →
        o.wp C.P a m.w next Q := by
    intro m top1 xs flat s v' w' news hinv hfree hl1 hold hmine hown hflat hgrown hat hxl hyl hrx hry next Q a hrun hnext
    have hfr : m.ρ 0 top.length = none := hfree _ (Nat.le_refl _)
    obtain ⟨A', c', rfl, hc'⟩ := owns_slice hown
    have hob : (Value.slice A' (xs.length + ys.length) c').ownBlock = blkOf (.slice A' (xs.length + ys.length) c') := ownBlock_blkOf _ ⟨_, _, _, rfl⟩
    let m' : M := ⟨w', fun l i => if l = 0 ∧ i = top.length then some (.slice A' (xs.length + ys.length) c') else m.ρ l i, fun k => m.U k ∨ blkOf (.slice A' (xs.length + ys.length) c') = some k⟩
    have hblk : ∀ k, blkOf (.slice A' (xs.length + ys.length) c') = some k → s.ownBlock = some k ∨ k = m.w.heap.size := by
      intro k hk
      rcases hat with h | h
      · rw [hob, hk] at h; exact .inl h.symm
      · rw [hob, hk] at h; cases h; exact .inr rfl
    have hsU : ∀ k, s.ownBlock = some k → m.U k ∧ k < m.w.heap.size := by
      intro k hk
      obtain ⟨j, b, v, h1, h2, h3, h4⟩ := hmine k hk
      have := hinv.own 0 j b v k h1 h2 h3 h4
      exact ⟨this, hinv.lt k this⟩
    have hT : Turn m m' top := by
      refine ⟨hgrown.os, hgrown.tape, hgrown.output, hgrown.size, fun k hk hn => hgrown.block k hk (fun e => hn (hmine k e.symm)), fun l j v hv => ?_, fun k hk => ?_⟩
      · show (if l = 0 ∧ j = top.length then _ else m.ρ l j) = some v
        rw [if_neg]
        · exact hv
        · rintro ⟨rfl, rfl⟩; rw [hfr] at hv; cases hv
      · show m.U k ∨ _ ↔ m.U k
        refine ⟨fun h => ?_, .inl⟩
        rcases h with h | h
        · exact h
        · rcases hblk k h with h | h
          · exact (hsU k h).1
          · omega
    have hK := hT.keep hinv
    have hρo : ∀ l j, ¬ (l = 0 ∧ j = top.length) → m'.ρ l j = m.ρ l j := fun l j hn => by show (if l = 0 ∧ j = top.length then _ else m.ρ l j) = _; rw [if_neg hn]
    have hρn : m'.ρ 0 top.length = some (.slice A' (xs.length + ys.length) c') := by show (if 0 = 0 ∧ top.length = top.length then _ else _) = _; rw [if_pos ⟨rfl, rfl⟩]
    have get : ∀ l j b, getB (top1 ++ [.row r'.t r'.size (xs ++ ys)]) H l j = some b → (l = 0 ∧ j = top.length ∧ b = .row r'.t r'.size (xs ++ ys)) ∨ (¬ (l = 0 ∧ j = top.length) ∧ getB top1 H l j = some b) := by
      intro l j b hb
      by_cases hn : l = 0 ∧ j = top.length
      · obtain ⟨rfl, rfl⟩ := hn
        rw [← hl1, getB_snoc_new] at hb
        cases hb
        exact .inl ⟨rfl, rfl, rfl⟩
      · rw [getB_snoc_old (by rw [hl1]; exact hn)] at hb
        exact .inr ⟨hn, hb⟩
    unfold Oper.wp
    rw [hrun]
    refine hnext _ m' hT (fun l j hn => hρo l j (fun e => hn ⟨e.1, by omega, by omega⟩)) (fun j u k h1 h2 hu hk => ?_) ⟨fun l j b hb => ?_, fun l j b l' j' b' v1 v2 k hb hlb hb' hlb' hv1 hv2 hk1 hk2 => ?_, fun l j b v k hb hlb hv hk => ?_, fun k hk => ?_⟩ (.row _ _ _ _ _ _ hρn (Nat.le_refl _) hc')
    · obtain rfl : j = top.length := by omega
      rw [hρn] at hu
      cases hu
      rcases hblk k hk with h | h
      · exact .inr (hmine k h)
      · exact .inl (by omega)
    · rcases get l j b hb with ⟨rfl, rfl, rfl⟩ | ⟨hn, hb1⟩
      · intro v hv
        rw [hρn] at hv
        cases hv
        refine ⟨hpos, fun x hx => ?_, flat ++ news, by rw [List.length_append]; exact hown, fun i x j' y' u hx hy' hu => ?_⟩
        · rcases List.mem_append.1 hx with h | h
          · exact hxl x h
          · exact hyl x h
        · rcases Nat.lt_or_ge i xs.length with hi | hi
          · rw [List.getElem?_append_left hi] at hx
            have hjl : j' < r'.size := by rw [← hxl x (List.mem_of_getElem? hx)]; exact (List.getElem?_eq_some_iff.1 hy').1
            have : i * r'.size + r'.size ≤ xs.length * r'.size := by rw [← Nat.succ_mul]; exact Nat.mul_le_mul_right _ hi
            rw [List.getElem?_append_left (by rw [hflat]; omega)] at hu
            exact (hrx i x j' y' u hx hy' hu).keep hK
          · rw [List.getElem?_append_right hi] at hx
            have : xs.length * r'.size ≤ i * r'.size := Nat.mul_le_mul_right _ hi
            rw [List.getElem?_append_right (by rw [hflat]; omega), hflat] at hu
            refine (hry (i - xs.length) x j' y' u hx hy' ?_).keep hK
            rw [Nat.sub_mul, show i * r'.size - xs.length * r'.size + j' = i * r'.size + j' - xs.length * r'.size by omega]
            exact hu
      · cases hlb : b.live with
        | false => cases b <;> simp [Blk.live] at hlb <;> exact True.intro
        | true =>
          obtain ⟨hb2, hns⟩ := hold l j b hb1 hlb
          refine (hinv.blk l j b hb2).keep hK (hρo l j hn) (fun v k hl hv hk => hgrown.block k (hinv.lt k (hinv.own l j b v k hb2 hl hv hk)) (fun e => hns v hv k hk e.symm))
    · rcases get l j b hb with ⟨rfl, rfl, rfl⟩ | ⟨hn, hb1⟩ <;> rcases get l' j' b' hb' with ⟨rfl, rfl, rfl⟩ | ⟨hn', hb1'⟩
      · exact ⟨rfl, rfl⟩
      · exfalso
        rw [hρn] at hv1; cases hv1
        rw [hρo l' j' hn'] at hv2
        obtain ⟨hb2, hns⟩ := hold l' j' b' hb1' hlb'
        rcases hblk k hk1 with h | h
        · exact hns v2 hv2 k hk2 h
        · have := hinv.lt k (hinv.own l' j' b' v2 k hb2 hlb' hv2 hk2); omega
      · exfalso
        rw [hρn] at hv2; cases hv2
        rw [hρo l j hn] at hv1
        obtain ⟨hb2, hns⟩ := hold l j b hb1 hlb
        rcases hblk k hk2 with h | h
        · exact hns v1 hv1 k hk1 h
        · have := hinv.lt k (hinv.own l j b v1 k hb2 hlb hv1 hk1); omega
      · rw [hρo l j hn] at hv1; rw [hρo l' j' hn'] at hv2
        exact hinv.inj l j b l' j' b' v1 v2 k (hold l j b hb1 hlb).1 hlb (hold l' j' b' hb1' hlb').1 hlb' hv1 hv2 hk1 hk2
    · rcases get l j b hb with ⟨rfl, rfl, rfl⟩ | ⟨hn, hb1⟩
      · rw [hρn] at hv; cases hv; exact .inr hk
      · rw [hρo l j hn] at hv
        exact .inl (hinv.own l j b v k (hold l j b hb1 hlb).1 hlb hv hk)
    · rcases hk with hk | hk
      · exact Nat.lt_of_lt_of_le (hinv.lt k hk) hgrown.size
      · rcases hown.2 with ⟨h1, _⟩ | ⟨g, cap, cur, h1, _, hg, _⟩
        · rw [h1] at hk; cases hk
        · rw [h1] at hk; cases hk
          exact (Array.getElem?_eq_some_iff.1 hg).1
  split at h
  · -- onto nil
    obtain ⟨hby, h⟩ := h
    unfold newK at h
    rw [lenK_spec, snocK_spec] at h
    refine ⟨_, _, h, by simp, GenLe.app _ rfl, fun m a hinv he hfree next Q hnext => ?_, fun e => by cases e⟩
    have h1 := ev_rel he mx hp
    have h2 := ev_rel he my hq
    generalize hv : a.eval x = v at h1
    cases h1
    obtain ⟨A, n, c0, news, hy, hn, hnl, hA, hyl, hcell, hone, hrd⟩ := hnews m H _ hinv h2
    obtain ⟨v', w', hrun, hown, hgr, hat⟩ := run_append_any (P := C.P) (w := m.w) (t := r.t) (ty := o.type) hd hi2 hz2 hs2 hb2 hzs hpos hbp (World.ownsRow_nil m.w 0 r'.t r'.size) (A := A) (m := n) (c := c0) (news := news) hnl hA hcell hone (by rw [hn, Nat.zero_add]; exact hby)
    have := fin m top [] [] (.slice none 0 0) v' w' news hinv hfree rfl (fun l i b hb hl => ⟨hb, (fun v _ k _ e => by cases e)⟩) (fun k hk => (by cases hk)) (by rw [← hn]; simpa using hown) (by simp) hgr hat (by simp) hyl (fun i x j y u hx => by simp at hx) hrd next Q a (ex a _ _ _ (by rw [hv, hy]; exact hrun))
    refine this fun v m' hT hρ hfr hI hR => ?_
    simp only [List.length_nil, Nat.zero_add, List.nil_append] at hI hR
    exact hnext v m' hT (fun l j hn => hρ l j (by simpa using hn)) (fun j u k h1 h2 => hfr j u k h1 (by simpa using h2)) hI hR
  · -- onto a row of no elements, without room: plain
    obtain ⟨hby, h⟩ := h
    suffices hO : OpStep C H o tm top _ top from ⟨_, top, h, Nat.le_refl _, GenLe.refl _, hO.act, fun _ => ⟨List.prefix_refl _, hO⟩⟩
    intro m a hinv he hfree next Q hnext
    have h1 := ev_rel he mx hp
    have h2 := ev_rel he my hq
    generalize hv : a.eval x = v at h1
    cases h1 with
    | emp ad =>
      obtain ⟨A, n, c0, news, hy, hn, hnl, hA, hyl, hcell, hone, hrd⟩ := hnews m H _ hinv h2
      rcases Nat.eq_zero_or_pos n with hn0 | hn0
      · subst hn0
        obtain rfl : ys = [] := List.eq_nil_of_length_eq_zero hn.symm
        unfold Oper.wp
        rw [ex a m.w m.w _ (by rw [hv, hy]; exact run_append_emp0 hd hi2 ad)]
        exact hnext _ m (Grow.refl m) (fun _ _ _ => rfl) (fun j u k h1 h2 => by omega) hinv (.d _ _ (.sl 0 [] (some ad) 0 0 default (fun _ => undef) rfl (Nat.le_refl _) (by omega) (by omega) (by simp) (fun i x j y hx => by simp at hx) (fun i x j y hx => by simp at hx)))
      · obtain ⟨v', w', hrun, hown, hgr, hat⟩ := run_append_any (P := C.P) (w := m.w) (t := r.t) (ty := o.type) hd hi2 hz2 hs2 hb2 hzs hpos hbp (World.ownsRow_nil m.w 0 r'.t r'.size) (A := A) (m := n) (c := c0) (news := news) hnl hA hcell hone (by rw [hn, Nat.zero_add]; exact hby)
        unfold Oper.wp
        rw [ex a m.w w' v' (by rw [hv, hy, run_append_emp hd hi2 ad hn0 (by rw [hb2]; exact hbp) (by rw [hb2, hn]; exact hby)]; exact hrun)]
        rw [Nat.zero_add, List.nil_append] at hown
        have hheap : ∀ k, k < m.w.heap.size → w'.heap[k]? = m.w.heap[k]? := fun k hk => hgr.block k hk (fun e => by cases e)
        have hT : Grow m ⟨w', m.ρ, m.U⟩ := ⟨hgr.os, hgr.tape, hgr.output, hgr.size, fun k hk => hheap k hk, fun _ _ _ h => h, fun _ _ => Iff.rfl⟩
        have hK := hT.keep
        have hI : Inv ⟨w', m.ρ, m.U⟩ top H := ⟨fun l j b hb => (hinv.blk l j b hb).keep hK rfl (fun v k hl hv hk => hheap k (hinv.lt k (hinv.own l j b v k hb hl hv hk))), hinv.inj, hinv.own, fun k hk => Nat.lt_of_lt_of_le (hinv.lt k hk) hgr.size⟩
        obtain ⟨hfl, hcase⟩ := hown
        rcases hcase with ⟨_, e⟩ | ⟨g, cap, cur, e, _, hg, hnc, hmx, hcs, htk⟩
        · omega
        · subst e
          have hgs : g = m.w.heap.size := by
            rcases hat with h | h
            · cases h
            · exact Option.some.inj h
          refine hnext _ ⟨w', m.ρ, m.U⟩ hT (fun _ _ _ => rfl) (fun j u k h1 h2 => by omega) hI (.d _ _ (.sl r'.size ys (some ⟨g, 0, none⟩) n cap ⟨g, 0, none⟩ (fun k => news.getD k undef) hn.symm hnc (by unfold maxLen at hmx; omega) (fun _ => rfl) hyl (fun i x j y hx hy => ?_) (fun i x j y hx hy => ?_)))
          all_goals
            have hi : i < n := by rw [hn]; exact (List.getElem?_eq_some_iff.1 hx).1
            have hj : j < r'.size := by rw [← hyl x (List.mem_of_getElem? hx)]; exact (List.getElem?_eq_some_iff.1 hy).1
            have hij : i * r'.size + j < news.length := by
              have : i * r'.size + r'.size ≤ n * r'.size := by rw [← Nat.succ_mul]; exact Nat.mul_le_mul_right _ hi
              omega
            have hu : news[i * r'.size + j]? = some news[i * r'.size + j] := List.getElem?_eq_getElem hij
          · refine ⟨⟨(Array.getElem?_eq_some_iff.1 hg).1, fun hU => ?_⟩, ?_⟩
            · have : g < m.w.heap.size := hinv.lt _ hU
              omega
            · rw [add_none, Nat.zero_add]
              have hcu : cur[i * r'.size + j]? = some news[i * r'.size + j] := by
                rw [← Array.getElem?_toList, ← hu]
                conv => rhs; rw [← htk]
                rw [List.getElem?_take, if_pos (by omega)]
              simp only [World.cell?, hg, hcu]
              simp [hu]
          · have := (hrd i x j y _ hx hy hu).keep hK
            simpa [hu] using this
  · rename_i i0 n0 h__
    clear h__
    obtain ⟨b, hb, h⟩ := getK_spec.1 h
    split at h
    case h_2 => exact h.elim
    rename_i e' sz xs
    split at h
    case h_2 => exact h.elim
    rename_i he'
    have he' := Nat.eq_of_beq_eq_true he'
    split at h
    case h_2 => exact h.elim
    rename_i hsz'
    have hsz' := Nat.eq_of_beq_eq_true hsz'
    obtain ⟨hn0, hby, h⟩ := h
    obtain ⟨hlt, h⟩ := setK_spec.1 h
    unfold newK at h
    rw [lenK_spec, snocK_spec] at h
    refine ⟨_, _, h, by simp, (GenLe.set hb rfl rfl).trans (GenLe.app _ rfl), fun m a hinv he hfree next Q hnext => ?_, fun e => by cases e⟩
    have h1 := ev_rel he mx hp
    have h2 := ev_rel he my hq
    generalize hv : a.eval x = v at h1
    cases h1 with
    | row _ _ _ N cN A0 hρ hn hc =>
      obtain ⟨hp0, hxs, flat, ho', hrx⟩ := hinv.blk 0 i0 _ hb _ hρ
      have hN : N = xs.length := by
        obtain ⟨A, c, h1, _⟩ := owns_slice ho'
        simp only [Value.slice.injEq] at h1; exact h1.2.1
      subst hN
      subst hn0
      obtain ⟨A, n, c0, news, hy, hn, hnl, hA, hyl, hcell, hone, hrd⟩ := hnews m H _ hinv h2
      rw [he', hsz'] at ho'
      obtain ⟨v', w', hrun, hown, hgr, hat⟩ := run_append_any (P := C.P) (w := m.w) (t := r.t) (ty := o.type) hd hi2 hz2 hs2 hb2 hzs hpos hbp ho' (A := A) (m := n) (c := c0) (news := news) hnl hA hcell hone (by rw [hn]; exact hby)
      have hob : (Value.slice A0 xs.length cN).ownBlock = blkOf (.slice A0 xs.length cN) := ownBlock_blkOf _ ⟨_, _, _, rfl⟩
      have hset : ∀ l i b, getB (top.set i0 .dead) H l i = some b → b.live = true → ¬ (l = 0 ∧ i = i0) ∧ getB top H l i = some b := by
        intro l i b hb' hl'
        by_cases hh : l = 0 ∧ i = i0
        · obtain ⟨rfl, rfl⟩ := hh
          simp [getB, hlt] at hb'
          subst hb'
          cases hl'
        · rw [getB_set_old hh] at hb'
          exact ⟨hh, hb'⟩
      have := fin m (top.set i0 .dead) xs flat (.slice A0 xs.length cN) v' w' news hinv hfree (by simp)
        (fun l i b hb' hl' => by
          obtain ⟨hne, hb2⟩ := hset l i b hb' hl'
          refine ⟨hb2, fun v hv k hk e => hne ?_⟩
          rw [hob] at e
          exact hinv.inj l i b 0 i0 _ v _ k hb2 hl' hb rfl hv hρ hk e)
        (fun k hk => by rw [hob] at hk; exact ⟨i0, _, _, hb, rfl, hρ, hk⟩) (by rw [← hn]; exact hown) ho'.1 hgr hat (fun x hx => by rw [← hsz']; exact hxs x hx) hyl (fun i x j y u hx hy hu => hrx i x j y u hx hy (by rw [hsz']; exact hu)) hrd next Q a (ex a _ _ _ (by rw [hv, hy]; exact hrun))
      refine this fun v m' hT hρ' hfr hI hR => ?_
      exact hnext v m' hT (fun l j hn => hρ' l j (by simpa using hn)) (fun j u k h1 h2 => hfr j u k h1 (by simpa using h2)) (by rw [hsz']; exact hI) (by simpa using hR)
  · exact h.elim
end Go.Proofs.Ve

/- A call to which rows are given: what the value machine says of it is so. -/
set_option linter.all false
namespace Go.Proofs.Ve
open Go

def giveM (m : M) (bs : List Nat) : M := ⟨m.w, fun l i => match l with | 0 => (bs[i]?).bind (m.ρ 0) | l + 1 => m.ρ l i, m.U⟩
theorem keep_lent_give (m : M) (bs : List Nat) : Keep (lentM m []) (giveM m bs) := by
  refine ⟨fun l i v h => ?_, Nat.le_refl _, fun k hk => ⟨fun hu => hk.2 ⟨hu, ?_⟩, rfl⟩⟩
  · cases l with
    | zero => cases h
    | succ l => exact h
  · rintro ⟨i, v, hi, _⟩; cases hi

theorem giveCells_spec {top : List Blk} : ∀ (ps : List PV) (bs0 : List Nat) (K : List PV → List Nat → List RowB → Prop), bs0.Nodup → giveCellsK top ps bs0 K →
    ∃ ps' bs G, K ps' bs G ∧ bs.length = G.length ∧ (bs0 ++ bs).Nodup ∧ (∀ (g : Nat) i, bs[g]? = some i → ∃ r, G[g]? = some r ∧ top[i]? = some r.blk) ∧
      ∀ (m : M) (H : List (List Blk)) (ba : List Nat), (bs0 ++ bs) <+: ba → Inv m top H → ps'.length = ps.length ∧ ∀ (j : Nat) p' v, ps'[j]? = some p' → (∀ p, ps[j]? = some p → RP m p v) → RP (giveM m ba) p' v
  | [], bs0, K, hnd, h => ⟨[], [], [], h, rfl, by simpa using hnd, fun g i hg => by simp at hg, fun m H ba _ _ => ⟨rfl, fun j p' v hp => by simp at hp⟩⟩
  | p :: ps, bs0, K, hnd, h => by
    simp only [giveCellsK, giveOneK] at h
    split at h
    · rename_i i n
      obtain ⟨b, hb, h⟩ := getK_spec.1 h
      split at h
      case h_2 => exact h.elim
      rename_i e sz xs
      split at h
      · exact h.elim
      · rename_i hno
        split at h
        · exact h.elim
        rename_i hsz0
        have hb : top[i]? = some (RowB.blk ⟨e, sz, xs⟩) := by rw [hb]; unfold RowB.blk; rw [hsz0]
        rw [lenK_spec] at h
        rw [snocK_spec] at h
        have hni : i ∉ bs0 := fun hi => by
          rw [List.any_eq_false] at hno
          exact hno i hi (by simp)
        obtain ⟨ps', bs, G, hk, h1, h2, h3, h4⟩ := giveCells_spec ps _ _ (by
          rw [List.nodup_append]
          refine ⟨hnd, by simp, fun a ha b hb e => ?_⟩
          simp at hb; subst hb; subst e; exact hni ha) h
        refine ⟨_, _, _, hk, by simp [h1], by simpa using h2, fun g j hg => ?_, fun m H ba hpre hinv => ?_⟩
        · cases g with
          | zero => simp at hg; subst hg; exact ⟨_, rfl, hb⟩
          | succ g => exact h3 g j (by simpa using hg)
        · obtain ⟨q1, q2⟩ := h4 m H ba (by simpa using hpre) hinv
          refine ⟨by simp [q1], fun j p' v hp hv => ?_⟩
          cases j with
          | zero =>
            simp at hp
            subst hp
            have := hv _ rfl
            cases this with
            | row _ _ _ N c A hρ hn hc =>
              refine .row _ _ _ N c A ?_ hn hc
              obtain ⟨t, rfl⟩ := hpre
              simp [giveM, hρ]
          | succ j => exact q2 j p' v (by simpa using hp) (fun p0 h0 => hv p0 (by simpa using h0))
    · obtain ⟨ps', bs, G, hk, h1, h2, h3, h4⟩ := giveCells_spec ps _ _ hnd h
      refine ⟨_, _, _, hk, h1, h2, h3, fun m H ba hpre hinv => ?_⟩
      obtain ⟨q1, q2⟩ := h4 m H ba hpre hinv
      refine ⟨by simp [q1], fun j p2 v hp hv => ?_⟩
      cases j with
      | zero =>
        simp at hp
        subst hp
        have := hv _ rfl
        cases this
        exact .nils
      | succ j => exact q2 j p2 v (by simpa using hp) (fun p0 h0 => hv p0 (by simpa using h0))
    · obtain ⟨p', b1, h, _, _, hr⟩ := argK_spec p [] _ h
      split at h
      case h_2 => exact h.elim
      obtain ⟨ps', bs, G, hk, h1, h2, h3, h4⟩ := giveCells_spec ps _ _ hnd h
      refine ⟨_, _, _, hk, h1, h2, h3, fun m H ba hpre hinv => ?_⟩
      obtain ⟨q1, q2⟩ := h4 m H ba hpre hinv
      refine ⟨by simp [q1], fun j p2 v hp hv => ?_⟩
      cases j with
      | zero =>
        simp at hp
        subst hp
        exact (hr m H [] v (fun i hi => hi) hinv (hv p rfl)).keep (keep_lent_give m ba)
      | succ j => exact q2 j p2 v (by simpa using hp) (fun p0 h0 => hv p0 (by simpa using h0))

theorem giveArg_spec {top : List Blk} {p : PV} {bs0 : List Nat} {K : PV → List Nat → List RowB → Prop} (hnd : bs0.Nodup) (h : giveArgK top p bs0 K) :
    ∃ p' bs G, K p' bs G ∧ bs.length = G.length ∧ (bs0 ++ bs).Nodup ∧ (∀ (g : Nat) i, bs[g]? = some i → ∃ r, G[g]? = some r ∧ top[i]? = some r.blk) ∧
      ∀ (m : M) (H : List (List Blk)) (ba : List Nat) (v : Value), (bs0 ++ bs) <+: ba → Inv m top H → RP m p v → RP (giveM m ba) p' v := by
  unfold giveArgK at h
  split at h
  · obtain ⟨cs', bs, G, hk, h1, h2, h3, h4⟩ := giveCells_spec _ _ _ hnd h
    refine ⟨_, _, _, hk, h1, h2, h3, fun m H ba v hpre hinv hv => ?_⟩
    obtain ⟨q1, q2⟩ := h4 m H ba hpre hinv
    cases hv with
    | agg cs vs e1 e2 =>
      refine .agg _ _ (q1.trans e1) fun j p' v hp hv => q2 j p' v hp fun p hp0 => e2 j p v hp0 hv
  · obtain ⟨cs', bs, G, hk, h1, h2, h3, h4⟩ := giveCells_spec _ _ _ hnd h
    split at hk
    · refine ⟨_, _, _, hk, h1, h2, h3, fun m H ba v hpre hinv hv => ?_⟩
      obtain ⟨q1, q2⟩ := h4 m H ba hpre hinv
      exact q2 0 _ v rfl fun p hp0 => by simp at hp0; subst hp0; exact hv
    · exact hk.elim
theorem giveArgs_spec {top : List Blk} : ∀ (ps : List PV) (bs0 : List Nat) (K : List PV → List Nat → List RowB → Prop), bs0.Nodup → giveArgsK top ps bs0 K →
    ∃ ps' bs G, K ps' bs G ∧ bs.length = G.length ∧ (bs0 ++ bs).Nodup ∧ (∀ (g : Nat) i, bs[g]? = some i → ∃ r, G[g]? = some r ∧ top[i]? = some r.blk) ∧
      ∀ (m : M) (H : List (List Blk)) (ba : List Nat), (bs0 ++ bs) <+: ba → Inv m top H → ps'.length = ps.length ∧ ∀ (j : Nat) p' v, ps'[j]? = some p' → (∀ p, ps[j]? = some p → RP m p v) → RP (giveM m ba) p' v
  | [], bs0, K, hnd, h => ⟨[], [], [], h, rfl, by simpa using hnd, fun g i hg => by simp at hg, fun m H ba _ _ => ⟨rfl, fun j p' v hp => by simp at hp⟩⟩
  | p :: ps, bs0, K, hnd, h => by
    rw [giveArgsK_cons] at h
    obtain ⟨p', b1, G1, h, g1, g2, g3, g4⟩ := giveArg_spec hnd h
    rw [appK_spec] at h
    obtain ⟨ps', b2, G2, h, h1, h2, h3, h4⟩ := giveArgs_spec ps _ _ g2 h
    rw [appK_spec, appK_spec] at h
    rw [List.append_assoc] at h2
    refine ⟨_, _, _, h, by simp [g1, h1], h2, fun g i hg => ?_, fun m H ba hpre hinv => ?_⟩
    · rcases Nat.lt_or_ge g b1.length with hlt | hge
      · rw [List.getElem?_append_left hlt] at hg
        obtain ⟨r, q1, q2⟩ := g3 g i hg
        exact ⟨r, by rw [List.getElem?_append_left (by omega)]; exact q1, q2⟩
      · rw [List.getElem?_append_right hge] at hg
        obtain ⟨r, q1, q2⟩ := h3 _ i hg
        exact ⟨r, by rw [List.getElem?_append_right (by omega), ← g1]; exact q1, q2⟩
    · obtain ⟨q1, q2⟩ := h4 m H ba (by rw [List.append_assoc]; exact hpre) hinv
      refine ⟨by simp [q1], fun j p2 v hp hv => ?_⟩
      cases j with
      | zero =>
        simp at hp
        subst hp
        exact g4 m H ba v (List.IsPrefix.trans ⟨b2, by simp⟩ hpre) hinv (hv p rfl)
      | succ j => exact q2 j p2 v (by simpa using hp) (fun p0 h0 => hv p0 (by simpa using h0))

theorem backK_spec : ∀ (is : List Nat) (gs : List (Option RowB)) (top : List Blk) (K : List Blk → Prop), is.Nodup → backK top is gs K →
    ∃ top2, K top2 ∧ is.length = gs.length ∧ top2.length = top.length ∧ (∀ i, i ∉ is → top2[i]? = top[i]?) ∧ ∀ (g : Nat) i, is[g]? = some i → ∃ b, gs[g]? = some b ∧ top2[i]? = some (gblk b)
  | [], [], top, K, _, h => ⟨top, h, rfl, rfl, fun i _ => rfl, fun g i hg => by simp at hg⟩
  | [], _ :: _, top, K, _, h => h.elim
  | _ :: _, [], top, K, _, h => h.elim
  | i :: is, g :: gs, top, K, hnd, h => by
    rw [List.nodup_cons] at hnd
    obtain ⟨top2, h, h1, h2, h3, h4⟩ := backK_spec is gs top _ hnd.2 h
    obtain ⟨hlt, h⟩ := setK_spec.1 h
    refine ⟨_, h, by simp [h1], by simp [h2], fun j hj => ?_, fun k j hk => ?_⟩
    · rw [List.mem_cons, not_or] at hj
      rw [List.getElem?_set_ne (fun e => hj.1 e.symm)]
      exact h3 j hj.2
    · cases k with
      | zero => simp at hk; subst hk; exact ⟨g, rfl, by simp [hlt]⟩
      | succ k =>
        have hk' : is[k]? = some j := by simpa using hk
        obtain ⟨b, hb, ht⟩ := h4 k j hk'
        refine ⟨b, by simpa using hb, ?_⟩
        rw [List.getElem?_set_ne]
        · exact ht
        · rintro rfl; exact hnd.1 (List.mem_of_getElem? hk')

theorem give_spec {C : Cx} {H : List (List Blk)} {top : List Blk} {f : Nat} {args : List PV} {K : PV → List Blk → Prop} (h : giveK C H top f args K) :
    ∃ pv top', K pv top' ∧ top.length ≤ top'.length ∧ GenLe top top' ∧ ∀ (m : M) (vs : Array Value), Inv m top H → args.length = vs.size → (∀ (j : Nat) p v, args[j]? = some p → vs[j]? = some v → RP m p v) → (∀ j, top.length ≤ j → m.ρ 0 j = none) →
      Calls C.P f vs m.w fun e w' => ∃ v m', e = .returned v ∧ m'.w = w' ∧ Turn m m' top ∧ (∀ l j, ¬ (l = 0 ∧ top.length ≤ j ∧ j < top'.length) → m'.ρ l j = m.ρ l j) ∧
        (∀ j u k, top.length ≤ j → j < top'.length → m'.ρ 0 j = some u → blkOf u = some k → m.w.heap.size ≤ k ∨ Mine m top k) ∧ Inv m' top' H ∧ RP m' pv v := by
  obtain ⟨args', bs, G, h, hbl, hnd, hbs, hargs⟩ := giveArgs_spec args [] _ List.nodup_nil h
  rw [List.nil_append] at hnd
  obtain ⟨top1, h, hl1, hd1, hs1⟩ := hideK_spec bs _ h
  obtain ⟨r, G', N, hcall, h⟩ := h
  rw [lenK_spec, lenK_spec] at h
  obtain ⟨pv, h, hpv⟩ := adoptK_spec r _ h
  obtain ⟨top2, h, hg1, hl2, hs2, hb2⟩ := backK_spec bs G' top _ hnd h
  rw [appK_spec] at h
  unfold CallEqG at hcall
  obtain ⟨hgl, hcall⟩ := hcall
  have hNl : (blksOf N).length = N.length := by rw [blksOf_eq]; simp
  have hgen : GenLe top (top2 ++ blksOf N) := by
    refine GenLe.trans ⟨fun i Y st hi => ?_, by omega, fun j b' hj hb hl => ?_⟩ (GenLe.app _ (noGens_blks N))
    · by_cases hb : i ∈ bs
      · obtain ⟨g, hg⟩ := List.mem_iff_getElem?.1 hb
        obtain ⟨b, _, h2⟩ := hb2 g i hg
        rw [h2] at hi
        cases b with
        | none => cases hi
        | some r =>
          have := r.noGen
          rw [show gblk (some r) = r.blk from rfl] at hi
          cases hi' : r.blk <;> rw [hi'] at hi this <;> first | (cases hi; done) | (cases this; done)
      · rwa [hs2 i hb] at hi
    · by_cases hb' : j ∈ bs
      · obtain ⟨g, hg⟩ := List.mem_iff_getElem?.1 hb'
        obtain ⟨r, _, h2⟩ := hbs g j hg
        exact ⟨_, h2, r.live⟩
      · rw [hs2 j hb'] at hb; exact ⟨b', hb, hl⟩
  refine ⟨pv, _, h, by simp [hl2], hgen, fun m vs hinv hlen hrel hfree => ?_⟩
  obtain ⟨hal, har⟩ := hargs m H bs (by simp) hinv
  have inBs : ∀ i, i ∈ bs → ∃ (g : Nat) (r : RowB), bs[g]? = some i ∧ G[g]? = some r ∧ top[i]? = some r.blk := fun i hi => by
    obtain ⟨g, hg⟩ := List.mem_iff_getElem?.1 hi
    obtain ⟨r, h1, h2⟩ := hbs g i hg
    exact ⟨g, r, hg, h1, h2⟩
  -- as the callee sees it
  have phi : ∀ l i b, getB (G.map RowB.blk) (top1 :: H) l i = some b → b.live = true → ∃ l' i', getB top H l' i' = some b ∧ (giveM m bs).ρ l i = m.ρ l' i' ∧ ((l = 0 ∧ l' = 0 ∧ bs[i]? = some i') ∨ (l = l' + 1 ∧ i = i' ∧ (l' = 0 → i ∉ bs))) := by
    intro l i b hb hl
    cases l with
    | zero =>
      simp only [getB, List.getElem?_map] at hb
      obtain ⟨r, hr, rfl⟩ := Option.map_eq_some_iff.1 hb
      have hi : i < bs.length := by rw [hbl]; exact (List.getElem?_eq_some_iff.1 hr).1
      have hbi := List.getElem?_eq_getElem hi
      obtain ⟨r', h1, h2⟩ := hbs i _ hbi
      rw [hr] at h1; cases h1
      exact ⟨0, bs[i], h2, by simp [giveM, hbi], .inl ⟨rfl, rfl, hbi⟩⟩
    | succ l =>
      cases l with
      | zero =>
        have hb' : top1[i]? = some b := by simpa [getB] using hb
        have hni : i ∉ bs := fun hi => by obtain ⟨_, _, _, _, h9⟩ := inBs i hi; rw [hd1 i hi (List.getElem?_eq_some_iff.1 h9).1] at hb'; cases hb'; cases hl
        exact ⟨0, i, by rw [getB, ← hs1 i hni]; exact hb', rfl, .inr ⟨rfl, rfl, fun _ => hni⟩⟩
      | succ l => exact ⟨l + 1, i, by simpa [getB] using hb, rfl, .inr ⟨rfl, rfl, fun h => by cases h⟩⟩
  have hinv2 : Inv (giveM m bs) (G.map RowB.blk) (top1 :: H) := by
    refine ⟨fun l i b hb => ?_, fun l i b l' i' b' v v' k h1 h2 h3 h4 h5 h6 h7 h8 => ?_, fun l i b v k h1 h2 h3 h4 => ?_, hinv.lt⟩
    · cases hlv : b.live with
      | false => cases b <;> simp [Blk.live] at hlv <;> exact True.intro
      | true =>
        obtain ⟨l', i', h1, h2, h3⟩ := phi l i b hb hlv
        have hbo := hinv.blk l' i' b h1
        have hzero : l = 0 → BlkOk (giveM m bs) l i b := fun hl => by
          subst hl
          simp only [getB, List.getElem?_map] at hb
          obtain ⟨r, _, rfl⟩ := Option.map_eq_some_iff.1 hb
          exact rowB_keep r h2 rfl (fun _ _ _ _ _ h => h) hbo
        cases b with
        | dead => trivial
        | gen Y st => trivial
        | row e sz xs => exact fun v hv => hbo v (h2 ▸ hv)
        | box cs =>
          intro v hv
          rw [h2] at hv
          obtain ⟨g, us, e, q1, q2, q3, q4⟩ := hbo v hv
          rcases h3 with ⟨rfl, _, _⟩ | ⟨rfl, rfl, _⟩
          · exact hzero rfl v (by rw [h2]; exact hv)
          · exact ⟨g, us, e, q1, q2, q3, q4⟩
    · obtain ⟨a, b1, c1, c2, c3⟩ := phi l i b h1 h2
      obtain ⟨a', b1', c1', c2', c3'⟩ := phi l' i' b' h3 h4
      rw [c2] at h5; rw [c2'] at h6
      obtain ⟨rfl, rfl⟩ := hinv.inj a b1 b a' b1' b' v v' k c1 h2 c1' h4 h5 h6 h7 h8
      rcases c3 with ⟨rfl, rfl, d1⟩ | ⟨rfl, rfl, d1⟩ <;> rcases c3' with ⟨rfl, e0, e1⟩ | ⟨rfl, rfl, e1⟩
      · refine ⟨rfl, ?_⟩
        have hi := (List.getElem?_eq_some_iff.1 d1).1
        have hi' := (List.getElem?_eq_some_iff.1 e1).1
        exact (List.getElem?_inj hi hnd).1 (d1.trans e1.symm)
      · exact absurd (List.mem_of_getElem? d1) (e1 rfl)
      · subst e0; exact absurd (List.mem_of_getElem? e1) (d1 rfl)
      · exact ⟨rfl, rfl⟩
    · obtain ⟨a, b1, c1, c2, _⟩ := phi l i b h1 h2
      rw [c2] at h3
      exact hinv.own a b1 b v k c1 h2 h3 h4
  refine (hcall (giveM m bs) vs hinv2 (fun i hi => by simp [giveM, List.getElem?_eq_none (show bs.length ≤ i by omega)]) (hal.trans hlen) (fun j p v hp hv => har j p v hp (fun p0 h0 => hrel j p0 v h0 hv))).mono ?_
  rintro e w' ⟨v, m3, rfl, rfl, hs, hnames, hi3, hr⟩
  -- what was given is the caller's
  have mine : ∀ k, Mine (giveM m bs) (G.map RowB.blk) k → Mine m top k := by
    rintro k ⟨i, b, u, h1, h2, h3, h4⟩
    obtain ⟨l', i', c1, c2, c3⟩ := phi 0 i b (by simpa [getB] using h1) h2
    rcases c3 with ⟨_, rfl, _⟩ | ⟨h, _⟩
    · exact ⟨i', b, u, c1, h2, by rw [← c2]; exact h3, h4⟩
    · cases h
  have hup : ∀ l i, m3.ρ (l + 1) i = m.ρ l i := fun l i => hs.up l i
  let m' : M := ⟨m3.w, fun l i => match l with | 0 => if top.length ≤ i then (if i < top.length + N.length then m3.ρ 0 (i - top.length) else none) else m.ρ 0 i | l + 1 => m.ρ (l + 1) i, m3.U⟩
  have hold : ∀ l i, ¬ (l = 0 ∧ top.length ≤ i ∧ i < top.length + N.length) → m'.ρ l i = m.ρ l i := by
    intro l i hn
    cases l with
    | succ l => rfl
    | zero =>
      show (if top.length ≤ i then (if i < top.length + N.length then m3.ρ 0 (i - top.length) else none) else m.ρ 0 i) = m.ρ 0 i
      split
      · rename_i h1
        rw [if_neg (fun h2 => hn ⟨rfl, h1, h2⟩), hfree i h1]
      · rfl
  have hnew : ∀ i, i < N.length → m'.ρ 0 (top.length + i) = m3.ρ 0 i := by
    intro i hi
    show (if top.length ≤ top.length + i then (if top.length + i < top.length + N.length then m3.ρ 0 (top.length + i - top.length) else none) else m.ρ 0 (top.length + i)) = _
    rw [if_pos (by omega), if_pos (by omega), show top.length + i - top.length = i by omega]
  have hT : Turn m m' top := by
    refine ⟨hs.os, hs.tape, hs.output, hs.size, fun k hk hnm => hs.heap k hk (fun h => hnm (mine k h)) (fun h => h), fun l i u hu => ?_, fun k hk => hs.U k hk⟩
    rw [hold l i]
    · exact hu
    · rintro ⟨rfl, h1, _⟩; rw [hfree i h1] at hu; cases hu
  have hK := hT.keep hinv
  -- where a block of the caller's stands for the callee
  have psi : ∀ l i b, getB (top2 ++ blksOf N) H l i = some b → b.live = true → ∃ L I, getB (N.map RowB.blk ++ G'.map gblk) (top1 :: H) L I = some b ∧ m'.ρ l i = m3.ρ L I ∧
      ((l = 0 ∧ L = 0 ∧ i = top.length + I ∧ I < N.length) ∨ (l = 0 ∧ L = 0 ∧ ∃ g, I = N.length + g ∧ bs[g]? = some i) ∨ (L = l + 1 ∧ I = i ∧ (l = 0 → i < top.length ∧ i ∉ bs))) := by
    intro l i b hb hl
    cases l with
    | succ l => exact ⟨l + 2, i, by simpa [getB] using hb, (hup (l + 1) i).symm, .inr (.inr ⟨rfl, rfl, fun h => by cases h⟩)⟩
    | zero =>
      simp only [getB] at hb
      rcases Nat.lt_or_ge i top2.length with h1 | h1
      · rw [List.getElem?_append_left h1] at hb
        have hlt : i < top.length := by omega
        have hρ : m'.ρ 0 i = m.ρ 0 i := hold 0 i (by omega)
        by_cases hi : i ∈ bs
        · obtain ⟨g, hg⟩ := List.mem_iff_getElem?.1 hi
          obtain ⟨b', q1, q2⟩ := hb2 g i hg
          rw [q2] at hb; cases hb
          have hgl' : g < G.length := by rw [← hbl]; exact (List.getElem?_eq_some_iff.1 hg).1
          refine ⟨0, N.length + g, ?_, ?_, .inr (.inl ⟨rfl, rfl, g, rfl, hg⟩)⟩
          · simp only [getB]
            rw [List.getElem?_append_right (by simp), List.getElem?_map]
            simp [q1]
          · rw [hρ, hnames g hgl']; simp [giveM, hg]
        · refine ⟨1, i, ?_, by rw [hρ, hup], .inr (.inr ⟨rfl, rfl, fun _ => ⟨hlt, hi⟩⟩)⟩
          simp only [getB, List.getElem?_cons_zero, Option.bind_some]
          rw [hs1 i hi, ← hs2 i hi]; exact hb
      · rw [List.getElem?_append_right h1, blksOf_eq] at hb
        have hlt : i - top2.length < N.length := by have := (List.getElem?_eq_some_iff.1 hb).1; simpa using this
        refine ⟨0, i - top2.length, ?_, ?_, .inl ⟨rfl, rfl, by omega, hlt⟩⟩
        · simp only [getB]; rw [List.getElem?_append_left (by simpa using hlt)]; exact hb
        · have := hnew _ hlt
          rwa [show top.length + (i - top2.length) = i by omega] at this
  refine ⟨v, m', rfl, rfl, hT, fun l j hj => hold l j (fun h => hj ⟨h.1, h.2.1, by simp [hl2, hNl]; omega⟩), fun j u k h1 h2 hu hk => ?_, ⟨fun l i b hb => ?_, fun l i b l' i' b' v1 v2 k h1 h2 h3 h4 h5 h6 h7 h8 => ?_, fun l i b v1 k h1 h2 h3 h4 => ?_, hi3.lt⟩, hpv m3 m' v (fun i u hi hu => by rw [hnew i (by rwa [hNl] at hi)]; exact hu) (.inr fun x v hx => hx) hr⟩
  · have h2' : j < top.length + N.length := by simpa [hl2, hNl] using h2
    have := hnew (j - top.length) (by omega)
    rw [show top.length + (j - top.length) = j by omega] at this
    rw [this] at hu
    have hjN : j - top.length < N.length := by omega
    refine (hs.fresh k ⟨j - top.length, (N[j - top.length]).blk, u, ?_, RowB.live _, hu, hk⟩).imp id (mine k)
    rw [List.getElem?_append_left (by simpa using hjN)]
    simp [hjN]
  · cases hlv : b.live with
    | false => cases b <;> simp [Blk.live] at hlv <;> exact True.intro
    | true =>
      obtain ⟨L, I, c1, c2, c3⟩ := psi l i b hb hlv
      have hbo := hi3.blk L I b c1
      have hzero : L = 0 → BlkOk m' l i b := fun hL => by
        subst hL
        simp only [getB] at c1
        rcases Nat.lt_or_ge I (N.map RowB.blk).length with h1 | h1
        · rw [List.getElem?_append_left h1, List.getElem?_map] at c1
          obtain ⟨r, _, rfl⟩ := Option.map_eq_some_iff.1 c1
          exact rowB_keep (m := m3) (m' := m') r c2 rfl (fun _ _ _ _ _ h => h) hbo
        · rw [List.getElem?_append_right h1, List.getElem?_map] at c1
          obtain ⟨r, _, hr⟩ := Option.map_eq_some_iff.1 c1
          cases r with
          | none => rw [← hr] at hlv; cases hlv
          | some r => rw [← hr] at hbo ⊢; exact rowB_keep (m := m3) (m' := m') r c2 rfl (fun _ _ _ _ _ h => h) hbo
      cases b with
      | dead => trivial
      | gen Y st => trivial
      | row e sz xs => exact fun u hu => hbo u (c2 ▸ hu)
      | box cs =>
        intro u hu
        rw [c2] at hu
        obtain ⟨g, us, e, q1, q2, q3, q4⟩ := hbo u hu
        rcases c3 with ⟨_, rfl, _, hlt⟩ | ⟨_, rfl, g', rfl, _⟩ | ⟨rfl, rfl, hh⟩
        · exact hzero rfl _ (by rw [c2]; exact hu)
        · exact hzero rfl _ (by rw [c2]; exact hu)
        · refine ⟨g, us, e, q1, q2, q3, fun j p x hp hx => (q4 j p x hp hx).keep ?_⟩
          refine ⟨fun a i' u' hu' => ?_, Nat.le_refl _, fun k hk => ⟨hk.2, rfl⟩⟩
          have h1 : m.ρ (a + l) i' = some u' := by rw [← hup]; exact hu'
          exact hT.ρ _ _ _ h1
  · obtain ⟨L, I, c1, c2, c3⟩ := psi l i b h1 h2
    obtain ⟨L', I', c1', c2', c3'⟩ := psi l' i' b' h3 h4
    rw [c2] at h5; rw [c2'] at h6
    obtain ⟨rfl, rfl⟩ := hi3.inj L I b L' I' b' v1 v2 k c1 h2 c1' h4 h5 h6 h7 h8
    rcases c3 with ⟨rfl, rfl, rfl, d⟩ | ⟨rfl, rfl, g, rfl, d⟩ | ⟨rfl, rfl, d⟩ <;> rcases c3' with ⟨rfl, e0, e1, e2⟩ | ⟨rfl, e0, g', e1, e2⟩ | ⟨e0, e1, e2⟩
    · exact ⟨rfl, by omega⟩
    · omega
    · cases e0
    · omega
    · have : g = g' := by omega
      subst this
      rw [d] at e2; cases e2; exact ⟨rfl, rfl⟩
    · cases e0
    · cases e0
    · cases e0
    · exact ⟨by omega, e1⟩
  · obtain ⟨L, I, c1, c2, _⟩ := psi l i b h1 h2
    rw [c2] at h3
    exact hi3.own L I b v1 k c1 h2 h3 h4
end Go.Proofs.Ve

/- What the value machine says of a region in order is so. -/
set_option linter.all false
namespace Go.Proofs.Ve
open Go

theorem actK_step {C : Cx} (hC : C.Ok) {H : List (List Blk)} {o : Oper} {tm : List PV} {top : List Blk} {K : PV → List Blk → Prop} (h : actK C H o.op tm top K) :
    ∃ pv top', K pv top' ∧ top.length ≤ top'.length ∧ GenLe top top' ∧ ActStep C H o tm top pv top' := by
  have plain : opK C H o.op tm top K → ∃ pv top', K pv top' ∧ top.length ≤ top'.length ∧ GenLe top top' ∧ ActStep C H o tm top pv top' := fun h => by
    obtain ⟨pv, top', h1, h2, h3⟩ := opK_step hC h
    exact ⟨pv, top', h1, h2.isPre.length_le, h2.genLe, h3.act⟩
  cases ho : o.op with
  | store t a v =>
    rw [ho] at h
    simp only [actK] at h
    obtain ⟨p, hp, h⟩ := evK_ev h
    obtain ⟨q, hq, h⟩ := evK_ev h
    obtain ⟨top', h1, h2, hg, h3⟩ := store_step hC ho hp hq h
    exact ⟨.any, top', h1, Nat.le_of_eq h2.symm, hg, h3⟩
  | call c =>
    rw [ho] at h
    have hb : (∃ b, c.callee = .builtin b ∧ b = .append) ∨ (∃ f, c.callee = .value (.func f) ∧ evsK tm c.args.toList fun aas => ifK (C.plain f) (giveK C H top f aas K)) ∨ opK C H (.call c) tm top K := by
      unfold actK at h
      dsimp only at h
      cases hcl : c.callee with
      | builtin b => rw [hcl] at h; cases b <;> first | exact .inl ⟨_, rfl, rfl⟩ | exact .inr (.inr h)
      | invoke r n => rw [hcl] at h; exact .inr (.inr h)
      | value f =>
        rw [hcl] at h
        cases f with
        | func f =>
          dsimp only at h
          cases hg : C.give.any (Nat.beq f) with
          | true => rw [hg] at h; exact .inr (.inl ⟨f, rfl, h⟩)
          | false => rw [hg] at h; exact .inr (.inr h)
        | tmp t => exact .inr (.inr h)
        | const v => exact .inr (.inr h)
        | global g => exact .inr (.inr h)
    rcases hb with ⟨b, hcl, rfl⟩ | ⟨f, hcl, h⟩ | hb
    rotate_left
    · obtain ⟨aas, h, hl, hr⟩ := evsK_spec (ys := o.op.operands.toList) h (fun x hx => by rw [ho]; simp only [Op.operands, Call.operands, hcl, Array.toList_append]; exact List.mem_append_right _ hx)
      simp only [ifK] at h
      split at h
      case h_2 => exact h.elim
      rename_i hpl
      obtain ⟨pv, top', hk, hle, hg, hh⟩ := give_spec h
      refine ⟨pv, top', hk, hle, hg, fun m a hinv he hfree next Q hnext => ?_⟩
      have hrun : (execOp a.eval o).run C.P m.w = .ok (.enter f (c.args.map a.eval)) m.w := by
        simp only [execOp, ho, resolve, hcl, Deferred.ofValue, Act.eval, Sem.run_bind, Sem.run_pure, Result.andThen_ok, invoke]
        simpa using run_callFunc hC hpl _ _
      unfold Oper.wp
      rw [hrun]
      show Calls C.P f _ m.w _
      refine (hh m (c.args.map a.eval) hinv (by rw [hl]; simp) (fun j p v hp hv => ?_) hfree).mono ?_
      · rw [Array.getElem?_map] at hv
        obtain ⟨x, hx, rfl⟩ := Option.map_eq_some_iff.1 hv
        exact hr m a he _ p x hp (by simpa using hx)
      · rintro e w' ⟨v, m', rfl, rfl, hT, hρ, hfr, hi, hr⟩
        exact hnext v m' hT hρ hfr hi hr
    · exact plain (by rw [ho]; exact hb)
    · simp only [actK, hcl] at h
      split at h
      case h_2 => exact h.elim
      rename_i x y t t' hx ht
      simp only [ifK] at h
      split at h
      case h_2 => exact h.elim
      rename_i hb
      obtain rfl := Nat.eq_of_beq_eq_true hb
      obtain ⟨p, hp, h⟩ := evK_ev h
      obtain ⟨q, hq, h⟩ := evK_ev h
      obtain ⟨pv, top', h1, h2, h3, h4, _⟩ := append_step hC ho hcl (by rw [← Array.toArray_toList (xs := c.args), hx]) (by rw [← Array.toArray_toList (xs := c.argTypes), ht]) hp hq h
      exact ⟨pv, top', h1, h2, h3, h4⟩
  | _ => rw [ho] at h; exact plain (by rw [ho]; exact h)

structure St (H : List (List Blk)) (m0 : M0) (m : M) (a : Act) (tm : List PV) (top : List Blk) : Prop where
  inv : Inv m top H
  size : a.tmps.size = tm.length
  rel : ∀ (j : Nat) p v, tm[j]? = some p → a.tmps[j]? = some v → RP m p v
  defers : a.defers = m0.ds
  free : ∀ j, top.length ≤ j → m.ρ 0 j = none
  since : Since m0 m top
  tsz : a.tmps.size = m0.tsz
  prot : ∀ j, ¬ m0.W j → a.tmps[j]? = m0.A j

theorem St.evR {H : List (List Blk)} {m0 : M0} {m : M} {a : Act} {tm : List PV} {top : List Blk} (h : St H m0 m a tm top) (xs : List Operand) : EvR m a tm xs := by
  intro t p _ ht
  have hlt : t < a.tmps.size := by rw [h.size]; exact (List.getElem?_eq_some_iff.1 ht).1
  have := h.rel t p a.tmps[t] ht (Array.getElem?_eq_getElem hlt)
  simpa [Act.eval, Array.getD, hlt] using this
theorem St.set {H : List (List Blk)} {m0 : M0} {m : M} {a : Act} {tm : List PV} {top : List Blk} (h : St H m0 m a tm top) {d : Nat} {p : PV} {v : Value} (hd : m0.W d) (hr : RP m p v) : St H m0 m (a.put (some d) v) (tm.set d p) top := by
  refine ⟨h.inv, by simp [Act.put, h.size], fun j q u hq hu => ?_, h.defers, h.free, h.since, by simp [Act.put, h.tsz], fun j hj => by
    simp only [Act.put]
    rw [Array.getElem?_setIfInBounds_ne (fun e => hj (by rw [← e]; exact hd))]
    exact h.prot j hj⟩
  simp only [Act.put] at hu
  by_cases hj : d = j
  · subst hj
    have h1 : d < tm.length := by simpa using (List.getElem?_eq_some_iff.1 hq).1
    simp [h1] at hq
    simp [h.size, h1] at hu
    subst hq; subst hu; exact hr
  · rw [List.getElem?_set_ne hj] at hq
    rw [Array.getElem?_setIfInBounds_ne hj] at hu
    exact h.rel j q u hq hu
theorem St.put {H : List (List Blk)} {m0 : M0} {m : M} {a : Act} {tm : List PV} {top : List Blk} (h : St H m0 m a tm top) {o : Oper} {p : PV} {v : Value} (hd : ∀ d, o.dst = some d → m0.W d) (hr : RP m p v) {K : List PV → Prop} (hk : putDst o tm p K) :
    ∃ tm', K tm' ∧ St H m0 m (a.put o.dst v) tm' top := by
  unfold putDst at hk
  cases ho : o.dst with
  | none => rw [ho] at hk; exact ⟨tm, hk, h⟩
  | some d => rw [ho] at hk; exact ⟨_, (setK_spec.1 hk).2, h.set (hd d ho) hr⟩

theorem mine_turn {m m' : M} {top top' : List Blk} (hg : GenLe top top') (hρ : ∀ l j, ¬ (l = 0 ∧ top.length ≤ j ∧ j < top'.length) → m'.ρ l j = m.ρ l j)
    (hfr : ∀ j u k, top.length ≤ j → j < top'.length → m'.ρ 0 j = some u → blkOf u = some k → m.w.heap.size ≤ k ∨ Mine m top k) {k : Nat} (h : Mine m' top' k) : m.w.heap.size ≤ k ∨ Mine m top k := by
  obtain ⟨j, b, v, hb, hl', hv, hk⟩ := h
  by_cases hj : top.length ≤ j ∧ j < top'.length
  · exact hfr j v k hj.1 hj.2 hv hk
  · rw [hρ 0 j (by omega)] at hv
    have := (List.getElem?_eq_some_iff.1 hb).1
    obtain ⟨b0, h1, h2⟩ := hg.live j b (by omega) hb hl'
    exact .inr ⟨j, b0, v, h1, h2, hv, hk⟩
theorem Since.step {m0 : M0} {m m' : M} {top top' : List Blk} (s : Since m0 m top) (os : m'.w.os = m.w.os) (tape : m'.w.tape = m.w.tape) (output : m'.w.output = m.w.output) (size : m.w.heap.size ≤ m'.w.heap.size)
    (heap : ∀ k, k < m.w.heap.size → ¬ Mine m top k → m'.w.heap[k]? = m.w.heap[k]?) (hup : ∀ l i, m'.ρ (l + 1) i = m.ρ (l + 1) i) (hU : ∀ k, k < m.w.heap.size → (m'.U k ↔ m.U k)) (hn : ∀ k, Mine m' top' k → m.w.heap.size ≤ k ∨ Mine m top k) : Since m0 m' top' := by
  refine ⟨os.trans s.os, tape.trans s.tape, output.trans s.output, Nat.le_trans s.size size, fun k hk hnm hnv => ?_, fun l i => (hup l i).trans (s.up l i), fun k hk => (hU k (Nat.lt_of_lt_of_le hk s.size)).trans (s.U k hk), fun k hk => ?_⟩
  · rw [heap k (Nat.lt_of_lt_of_le hk s.size) (fun hm => (s.fresh k hm).elim (fun h => by omega) hnm)]
    exact s.heap k hk hnm hnv
  · rcases hn k hk with h1 | h1
    · exact .inl (Nat.le_trans s.size h1)
    · exact s.fresh k h1
theorem Since.turn {m0 : M0} {m m' : M} {top top' : List Blk} (s : Since m0 m top) (hg : GenLe top top') (hT : Turn m m' top) (hρ : ∀ l j, ¬ (l = 0 ∧ top.length ≤ j ∧ j < top'.length) → m'.ρ l j = m.ρ l j)
    (hfr : ∀ j u k, top.length ≤ j → j < top'.length → m'.ρ 0 j = some u → blkOf u = some k → m.w.heap.size ≤ k ∨ Mine m top k) : Since m0 m' top' :=
  s.step hT.os hT.tape hT.output hT.size hT.heap (fun l i => hρ (l + 1) i (by omega)) hT.U fun k => mine_turn hg hρ hfr
theorem St.turn {H : List (List Blk)} {m0 : M0} {m m' : M} {a : Act} {tm : List PV} {top top' : List Blk} (h : St H m0 m a tm top) (hg : GenLe top top') (hT : Turn m m' top) (hl : top.length ≤ top'.length) (hρ : ∀ l j, ¬ (l = 0 ∧ top.length ≤ j ∧ j < top'.length) → m'.ρ l j = m.ρ l j)
    (hfr : ∀ j u k, top.length ≤ j → j < top'.length → m'.ρ 0 j = some u → blkOf u = some k → m.w.heap.size ≤ k ∨ Mine m top k) (hI : Inv m' top' H) : St H m0 m' a tm top' := by
  have hK := hT.keep h.inv
  refine ⟨hI, h.size, fun j p v hp hv => (h.rel j p v hp hv).keep hK, h.defers, fun j hj => ?_, h.since.turn hg hT hρ hfr, h.tsz, h.prot⟩
  rw [hρ 0 j (by omega)]; exact h.free j (by omega)

/-! ### what is not the frame's -/
structure Quiet (m : M) (top : List Blk) (V : Nat → Prop) (k : Nat) (o : Obj) : Prop where
  heap : m.w.heap[k]? = some o
  mine : ¬ Mine m top k
  out : ¬ V k
  used : m.U k
structure Calm (H : List (List Blk)) (m0 : M0) (m : M) (ds : List Deferred) (top : List Blk) (V : Nat → Prop) : Prop where
  one : ∀ (i j : Nat) Y st Y' st', top[i]? = some (.gen Y st) → top[j]? = some (.gen Y' st') → i = j
  used : ∀ k, V k → m.U k
  more : ∀ k, m0.V k → V k
  old : ∀ k, V k → k < m0.w.heap.size → m0.V k
  mine : ∀ k, V k → ¬ Mine m top k
  gen : ∀ (i : Nat) Y st, top[i]? = some (.gen Y st) → H = [] ∧ Y.Stab ∧ Y.J st V m.w m.U
  z : ∀ k o, m0.Z k = some o → Quiet m top V k o
  nd : ds.Nodup
  late : m0.rnd = false → ∀ d ∈ ds, ∀ D, d = { target := .collected D, args := #[] } → m0.w.heap.size ≤ D
  d : ∀ d ∈ ds, ∃ D, d = { target := .collected D, args := #[] } ∧ Quiet m top V D (.deferred (some []))
/-- The whole state. -/
def Full (H : List (List Blk)) (m0 : M0) (m : M) (a : Act) (tm : List PV) (top : List Blk) : Prop :=
  St H { m0 with ds := a.defers } m a tm top ∧ ∃ V, Calm H m0 m a.defers top V
theorem Calm.step {H : List (List Blk)} {m0 : M0} {m m' : M} {ds : List Deferred} {top top' : List Blk} {V : Nat → Prop} (h : Calm H m0 m ds top V) (hi : Inv m top H) (hi' : Inv m' top' H) (hg : GenLe top top')
    (os : m'.w.os = m.w.os) (tape : m'.w.tape = m.w.tape) (output : m'.w.output = m.w.output) (size : m.w.heap.size ≤ m'.w.heap.size) (heap : ∀ k, k < m.w.heap.size → ¬ Mine m top k → m'.w.heap[k]? = m.w.heap[k]?) (hU : ∀ k, k < m.w.heap.size → (m'.U k ↔ m.U k))
    (hn : ∀ k, Mine m' top' k → m.w.heap.size ≤ k ∨ Mine m top k) : Calm H m0 m' ds top' V := by
  have quiet : ∀ k o, Quiet m top V k o → Quiet m' top' V k o := fun k o q => by
    have hk := (Array.getElem?_eq_some_iff.1 q.heap).1
    exact ⟨(heap k hk q.mine).trans q.heap, fun hm => (hn k hm).elim (fun h => by omega) q.mine, q.out, (hU k hk).2 q.used⟩
  refine ⟨fun i j Y st Y' st' h1 h2 => h.one i j Y st Y' st' (hg.gen i Y st h1) (hg.gen j Y' st' h2), fun k hk => (hU k (hi.lt k (h.used k hk))).2 (h.used k hk), h.more, h.old, fun k hk hm => ?_, fun i Y st hb => ?_, fun k o hz => quiet k o (h.z k o hz), h.nd, h.late, fun d hd => ?_⟩
  · have := hi.lt k (h.used k hk)
    rcases hn k hm with h1 | h1
    · omega
    · exact h.mine k hk h1
  · obtain ⟨h1, h2, h3⟩ := h.gen i Y st (hg.gen i Y st hb)
    refine ⟨h1, h2, h2 st V m.w m.U m'.w m'.U ⟨os, tape, output, size, hU, fun k hk hu => heap k hk (fun ⟨i, b, v, q1, q2, q3, q4⟩ => hu (hi.own 0 i b v k q1 q2 q3 q4)), fun k hk => heap k (hi.lt k (h.used k hk)) (h.mine k hk), hi'.lt⟩ h.used hi.lt h3⟩
  · obtain ⟨D, h1, h2⟩ := h.d d hd
    exact ⟨D, h1, quiet _ _ h2⟩
theorem Full.turn {H : List (List Blk)} {m0 : M0} {m m' : M} {a : Act} {tm : List PV} {top top' : List Blk} (h : Full H m0 m a tm top) (hg : GenLe top top') (hT : Turn m m' top) (hl : top.length ≤ top'.length) (hρ : ∀ l j, ¬ (l = 0 ∧ top.length ≤ j ∧ j < top'.length) → m'.ρ l j = m.ρ l j)
    (hfr : ∀ j u k, top.length ≤ j → j < top'.length → m'.ρ 0 j = some u → blkOf u = some k → m.w.heap.size ≤ k ∨ Mine m top k) (hI : Inv m' top' H) : Full H m0 m' a tm top' := by
  obtain ⟨hs, V, hc⟩ := h
  exact ⟨hs.turn hg hT hl hρ hfr hI, V, hc.step hs.inv hI hg hT.os hT.tape hT.output hT.size hT.heap hT.U fun k => mine_turn hg hρ hfr⟩
theorem put_defers (a : Act) (d : Option Tmp) (v : Value) : (a.put d v).defers = a.defers := by cases d <;> rfl
theorem Full.put {H : List (List Blk)} {m0 : M0} {m : M} {a : Act} {tm : List PV} {top : List Blk} (h : Full H m0 m a tm top) {o : Oper} {p : PV} {v : Value} (hd : ∀ d, o.dst = some d → m0.W d) (hr : RP m p v) {K : List PV → Prop} (hk : putDst o tm p K) :
    ∃ tm', K tm' ∧ Full H m0 m (a.put o.dst v) tm' top := by
  obtain ⟨hs, hc⟩ := h
  obtain ⟨tm', h1, h2⟩ := hs.put (m0 := { m0 with ds := a.defers }) hd hr hk
  refine ⟨tm', h1, ?_, ?_⟩
  · rw [put_defers]; exact h2
  · rw [put_defers]; exact hc

theorem ActStep.wp {C : Cx} {H : List (List Blk)} {o : Oper} {tm : List PV} {top : List Blk} {pv : PV} {top' : List Blk} (hA : ActStep C H o tm top pv top') (hg : GenLe top top') (hl : top.length ≤ top'.length) {m0 : M0} {m : M} {a : Act} (hs : St H m0 m a tm top) (hd : ∀ d, o.dst = some d → m0.W d) {K : List PV → Prop} (hk : putDst o tm pv K)
    {next : Act → World → Prop} {Q : Exit → Act → World → Prop} (hn : ∀ v m' tm', K tm' → St H m0 m' (a.put o.dst v) tm' top' → next (a.put o.dst v) m'.w) : o.wp C.P a m.w next Q :=
  hA m a hs.inv (hs.evR _) hs.free next Q fun v m' hT hρ hfr hI hR => by
    obtain ⟨tm', h1, h2⟩ := (hs.turn hg hT hl hρ hfr hI).put hd hR hk
    exact hn v m' tm' h1 h2

/-! ### guards -/
theorem St.yielded {H : List (List Blk)} {m0 : M0} {m : M} {a : Act} {tm : List PV} {top : List Blk} (h : St H m0 m a tm top) {ops : List Oper} {j d : Nat} {o' : Oper} (ho : ops[j]? = some o') (hd : o'.dst = some d) {b : Bool} {p : PV} (hp : tm[d]? = some p) (hb : bool? p = some b) :
    yielded ops.toArray a.tmps j = some b := by
  have hlt : d < a.tmps.size := by rw [h.size]; exact (List.getElem?_eq_some_iff.1 hp).1
  have hv := Array.getElem?_eq_getElem hlt
  have := h.rel d p _ hp hv
  generalize a.tmps[d] = v at *
  have hvb : v = .bool b := by
    cases p with
    | kb x => simp [bool?] at hb; subst hb; cases this; rfl
    | d x =>
      cases x with
      | bool x => simp [bool?] at hb; subst hb; cases this with | d _ _ hx => cases hx; rfl
      | int k n => simp [bool?] at hb
      | str s => simp [bool?] at hb
      | sl xs => simp [bool?] at hb
    | _ => simp [bool?] at hb
  subst hvb
  simp [Go.yielded, ho, hd, hv]
theorem wantK_spec {H : List (List Blk)} {m0 : M0} {m : M} {a : Act} {tm : List PV} {top : List Blk} (h : St H m0 m a tm top) {ops : List Oper} {o : Oper} {K : Bool → List PV → Prop} (hk : wantK ops o tm K) :
    ∃ tm1, K (Region.wanted o (Go.yielded ops.toArray a.tmps)) tm1 ∧ St H m0 m a tm1 top ∧ tm1.length = tm.length := by
  unfold wantK at hk
  unfold Region.wanted
  cases hg : o.guard with
  | none => rw [hg] at hk; exact ⟨tm, hk, h, rfl⟩
  | some jb =>
    obtain ⟨j, b⟩ := jb
    rw [hg] at hk
    obtain ⟨o', ho', hk⟩ := getK_spec.1 hk
    split at hk
    · exact hk.elim
    · rename_i d hd
      obtain ⟨p, hp, hk⟩ := getK_spec.1 hk
      split at hk
      · rename_i x
        refine ⟨tm, ?_, h, rfl⟩
        simp only [h.yielded ho' hd hp (b := x) rfl]
        have : (some x == some b) = (x == b) := by cases x <;> cases b <;> rfl
        rw [this]; exact hk
      · have hlt : d < a.tmps.size := by rw [h.size]; exact (List.getElem?_eq_some_iff.1 hp).1
        have hv := Array.getElem?_eq_getElem hlt
        have hr := h.rel d _ _ hp hv
        generalize a.tmps[d] = v at hv hr
        cases hr with
        | tuple _ vs e1 e2 =>
          have hy : Go.yielded ops.toArray a.tmps j = none := by simp [Go.yielded, ho', hd, hv]
          refine ⟨tm, ?_, h, rfl⟩
          simp only [hy]
          exact hk
      · rename_i x
        simp only [h.yielded ho' hd hp (b := x) rfl]
        have same : St H m0 m a (tm.set d (.kb x)) top := by
          refine ⟨h.inv, by simp [h.size], fun j q u hq hu => ?_, h.defers, h.free, h.since, h.tsz, h.prot⟩
          by_cases hj : d = j
          · subst hj
            have h1 : d < tm.length := (List.getElem?_eq_some_iff.1 hp).1
            simp [h1] at hq
            subst hq
            have := h.rel d _ u hp hu
            cases this with | d _ _ hx => cases hx; exact .kb _
          · rw [List.getElem?_set_ne hj] at hq
            exact h.rel j q u hq hu
        by_cases hxb : x = b
        · subst hxb
          have := (setK_spec.1 (hk.1 rfl)).2
          exact ⟨_, by simpa using this, same, by simp⟩
        · have hx : x = !b := by cases x <;> cases b <;> first | rfl | exact absurd rfl hxb
          subst hx
          have := (setK_spec.1 (hk.2 rfl)).2
          have e : (some (!b) == some b) = false := by cases b <;> rfl
          rw [e]
          exact ⟨_, this, same, by simp⟩
      · exact hk.elim

theorem Full.want {H : List (List Blk)} {m0 : M0} {m : M} {a : Act} {tm : List PV} {top : List Blk} (h : Full H m0 m a tm top) {ops : List Oper} {o : Oper} {K : Bool → List PV → Prop} (hk : wantK ops o tm K) :
    ∃ tm1, K (Region.wanted o (Go.yielded ops.toArray a.tmps)) tm1 ∧ Full H m0 m a tm1 top ∧ tm1.length = tm.length := by
  obtain ⟨hs, hc⟩ := h
  obtain ⟨tm1, h1, h2, h3⟩ := wantK_spec hs hk
  exact ⟨tm1, h1, ⟨h2, hc⟩, h3⟩
/-- the fence: all functions; in a round, or not -/
def FW (r : Option Nat) : Fence := { Fence.wide with round := r }
theorem FW_none : FW none = Fence.wide := rfl
theorem rows_in {r : Option Nat} {P : Program} {row : String} {args : Array Value} {w : World} {R : Value → World → Prop} (h : Rows P row args w R) : RowsIn (FW r) 0 P row args w R := fun c cs _ => by
  obtain ⟨v, w', h1, h2⟩ := h c cs
  exact ⟨v, w', h1, stepsIn_wide.2 h2⟩
theorem calls_in {r : Option Nat} {P : Program} {f : FuncId} {args : Array Value} {w : World} {R : Ending → World → Prop} (h : Calls P f args w R) : CallsIn (FW r) 0 P f args w R := callsIn_wide.2 h
theorem upon_in {r : Option Nat} {P : Program} {o : Oper} {a : Act} {next : Act → World → Prop} {Q : Exit → Act → World → Prop} {x : Result Next} (h : o.upon P a next Q x) : o.uponIn (FW r) 0 P a next Q x := by
  cases x with
  | ok v w' =>
    cases v <;> simp only [Oper.upon, Oper.uponIn] at h ⊢ <;> first
      | exact h
      | exact ⟨fun h => (by cases h), calls_in h⟩
      | exact ⟨fun h => (by cases h), rows_in h⟩
      | exact h.elim
  | halt e w' => cases e <;> simp only [Oper.upon, Oper.uponIn] at h ⊢ <;> first | exact h | exact h.elim
theorem oper_in {r : Option Nat} {P : Program} {o : Oper} {a : Act} {w : World} {next : Act → World → Prop} {Q : Exit → Act → World → Prop} (hd : isDefer o.op = false) (h : o.wp P a w next Q) : o.wpIn (FW r) 0 P a w next Q := by
  refine ⟨fun _ _ => trivial, ?_⟩
  rw [Oper.semAt_eq _ _ _ (fun c hc => by rw [hc] at hd; cases hd)]
  exact upon_in h
theorem actK_defer {C : Cx} {H : List (List Blk)} {op : Op} {tm : List PV} {top : List Blk} {K : PV → List Blk → Prop} (h : actK C H op tm top K) : isDefer op = false := by
  cases op <;> first | rfl | exact h.elim

/-! ### yield -/
theorem yvOne_spec {p : PV} {K : YV → Prop} (h : yvOne p K) : ∃ y, K y ∧ ∀ m v, RP m p v → RY m.w m.ok y v := by
  have one : ∀ p, dvK p (fun x => K (.one x)) → ∃ y, K y ∧ ∀ m v, RP m p v → RY m.w m.ok y v := fun p h => by
    unfold dvK at h
    split at h
    · exact ⟨_, h, fun m v hv => by cases hv with | d _ _ hx => exact .one _ _ hx⟩
    · exact ⟨_, h, fun m v hv => by cases hv; exact .one _ _ (.bool _)⟩
    · exact ⟨_, h, fun m v hv => by cases hv; exact .one _ _ (.sl 0 [] none 0 0 default (fun _ => undef) rfl (Nat.le_refl _) (by omega) (by omega) (by simp) (fun i x j y hx => by simp at hx) (fun i x j y hx => by simp at hx))⟩
    · exact ⟨_, h, fun m v hv => by cases hv with | emp ad => exact .one _ _ (.sl 0 [] (some ad) 0 0 default (fun _ => undef) rfl (Nat.le_refl _) (by omega) (by omega) (by simp) (fun i x j y hx => by simp at hx) (fun i x j y hx => by simp at hx))⟩
    · exact h.elim
  unfold yvOne at h
  split at h
  · obtain ⟨ds, h, hdl, hds⟩ := dvsK_spec h
    refine ⟨_, h, fun m v hv => ?_⟩
    cases hv with
    | agg cs vs e r =>
      refine .agg _ _ (hdl.trans e) (fun j x u hx hu => ?_)
      refine (show u = (fun j => (vs[j]?).getD undef) j from by simp [hu]) ▸ hds m (fun j => (vs[j]?).getD undef) (fun j q hq => ?_) j x hx
      have hjl : j < vs.size := by rw [← e]; exact (List.getElem?_eq_some_iff.1 hq).1
      rw [Array.getElem?_eq_getElem hjl]
      exact r j q _ hq (Array.getElem?_eq_getElem hjl)
  · exact one _ h
theorem yvsK_spec : ∀ (ps : List PV) (K : List YV → Prop), yvsK ps K → ∃ ys, K ys ∧ ys.length = ps.length ∧ ∀ m (j : Nat) y v, ys[j]? = some y → (∀ p, ps[j]? = some p → RP m p v) → RY m.w m.ok y v
  | [], K, h => ⟨[], h, rfl, fun m j y v hy => by simp at hy⟩
  | p :: ps, K, h => by
    rw [yvsK_cons] at h
    obtain ⟨y, h, h1⟩ := yvOne_spec h
    obtain ⟨ys, h, h2, h3⟩ := yvsK_spec ps _ h
    refine ⟨_, h, by simp [h2], fun m j y' v hy hv => ?_⟩
    cases j with
    | zero => simp at hy; subst hy; exact h1 m v (hv p rfl)
    | succ j => exact h3 m j y' v (by simpa using hy) (fun p0 h0 => hv p0 h0)
theorem genK_spec : ∀ (top : List Blk) (n : Nat) (K : Nat → Yield → Option Nat → Prop), genK top n K → ∃ i Y st, K (n + i) Y st ∧ top[i]? = some (.gen Y st)
  | [], n, K, h => h.elim
  | b :: top, n, K, h => by
    rw [genK_cons] at h
    split at h
    · exact ⟨0, _, _, h, rfl⟩
    · obtain ⟨i, Y, st, h1, h2⟩ := genK_spec top (n + 1) K h
      exact ⟨i + 1, Y, st, by rw [show n + (i + 1) = n + 1 + i by omega]; exact h1, by simpa using h2⟩

/-- Behind a round: the frame as it was. -/
theorem Full.yield {m0 : M0} {m : M} {a : Act} {tm : List PV} {top : List Blk} {H : List (List Blk)} (h : Full H m0 m a tm top) {i : Nat} {Y : Yield} {st st' : Option Nat} (hb : top[i]? = some (.gen Y st)) {V : Nat → Prop} (hV : Calm H m0 m a.defers top V) {w' : World} {U' V' : Nat → Prop}
    (hs : YStep m.w m.U V w' U' V') (hJ : Y.J st' V' w' U') : Full H m0 ⟨w', m.ρ, U'⟩ a tm (top.set i (.gen Y st')) ∧ Keep m ⟨w', m.ρ, U'⟩ := by
  obtain ⟨s, _⟩ := h
  obtain ⟨hH, hst, _⟩ := hV.gen i Y st hb
  subst hH
  have hlt : i < top.length := (List.getElem?_eq_some_iff.1 hb).1
  have hK : Keep m ⟨w', m.ρ, U'⟩ := ⟨fun _ _ _ h => h, hs.size, fun k hk => ⟨fun hu => hk.2 ((hs.iff k hk.1).1 hu), hs.heap k hk.1 (fun hv => hk.2 (hV.used k hv))⟩⟩
  have get : ∀ l j b, getB (top.set i (.gen Y st')) [] l j = some b → b.live = true → getB top [] l j = some b := fun l j b hb' hlive => by
    cases l with
    | succ l => simp [getB] at hb'
    | zero =>
      simp only [getB] at hb' ⊢
      by_cases hij : i = j
      · subst hij; simp [hlt] at hb'; subst hb'; cases hlive
      · rwa [List.getElem?_set_ne hij] at hb'
  have named : ∀ k, Mine m top k → ¬ V k := fun k hn hv => hV.mine k hv hn
  have mineLe : ∀ (w' : World) (U' : Nat → Prop) k, Mine ⟨w', m.ρ, U'⟩ (top.set i (.gen Y st')) k → Mine m top k := by
    rintro w' U' k ⟨j, b, v, h1, h2, h3, h4⟩
    exact ⟨j, b, v, get 0 j b h1 h2, h2, h3, h4⟩
  have hinv : Inv ⟨w', m.ρ, U'⟩ (top.set i (.gen Y st')) [] := by
    refine ⟨fun l j b hb' => ?_, fun l j b l' j' b' v v' k h1 h2 h3 h4 h5 h6 h7 h8 => s.inv.inj l j b l' j' b' v v' k (get l j b h1 h2) h2 (get l' j' b' h3 h4) h4 h5 h6 h7 h8, fun l j b v k h1 h2 h3 h4 => ?_, hs.lt⟩
    · cases hlv : b.live with
      | false => cases b <;> simp [Blk.live] at hlv <;> exact True.intro
      | true =>
        have h0 := get l j b hb' hlv
        refine (s.inv.blk l j b h0).keep hK rfl (fun v k _ hv hk => ?_)
        have hlk := s.inv.lt k (s.inv.own l j b v k h0 hlv hv hk)
        cases l with
        | succ l => simp [getB] at h0
        | zero => exact hs.heap k hlk (named k ⟨j, b, v, h0, hlv, hv, hk⟩)
    · have h0 := get l j b h1 h2
      have hu := s.inv.own l j b v k h0 h2 h3 h4
      exact (hs.iff k (s.inv.lt k hu)).2 hu
  have hset : (top.set i (.gen Y st')).length = top.length := by simp
  have sub : ∀ j Y2 st2, (top.set i (.gen Y st'))[j]? = some (.gen Y2 st2) → (j = i ∧ Y2 = Y ∧ st2 = st') := fun j Y2 st2 hj => by
    by_cases hij : i = j
    · subst hij; simp [hlt] at hj; exact ⟨rfl, hj.1.symm, hj.2.symm⟩
    · rw [List.getElem?_set_ne hij] at hj
      exact absurd (hV.one i j _ _ _ _ hb hj) hij
  have notV : ∀ k, k < m.w.heap.size → ¬ V k → ¬ V' k := fun k hk hv hv' => (hs.fresh k hv').elim hv (fun h => by omega)
  have quiet : ∀ k o, Quiet m top V k o → Quiet ⟨w', m.ρ, U'⟩ (top.set i (.gen Y st')) V' k o := fun k o q => by
    have hk := (Array.getElem?_eq_some_iff.1 q.heap).1
    exact ⟨(hs.heap k hk q.out).trans q.heap, fun h => q.mine (mineLe _ _ k h), notV k hk q.out, (hs.iff k hk).2 q.used⟩
  refine ⟨⟨⟨hinv, s.size, fun j p v hp hv => (s.rel j p v hp hv).keep hK, s.defers, fun j hj => s.free j (by rwa [hset] at hj), ?_, s.tsz, s.prot⟩, V', ?_⟩, hK⟩
  · have t := s.since
    refine ⟨hs.os.trans t.os, hs.tape.trans t.tape, hs.output.trans t.output, Nat.le_trans t.size hs.size, fun k hk hnm hnv => (hs.heap k (Nat.lt_of_lt_of_le hk t.size) (fun hv => hnv (hV.old k hv hk))).trans (t.heap k hk hnm hnv), t.up, fun k hk => (hs.iff k (Nat.lt_of_lt_of_le hk t.size)).trans (t.U k hk), fun k hk => t.fresh k (mineLe _ _ k hk)⟩
  · refine ⟨fun x y Y1 st1 Y2 st2 h1 h2 => by rw [(sub x Y1 st1 h1).1, (sub y Y2 st2 h2).1], hs.used, fun k hk => hs.more k (hV.more k hk), fun k hk hlt' => ?_, fun k hk hn => ?_, fun x Y2 st2 h1 => ?_, fun k o hz => quiet k o (hV.z k o hz), hV.nd, hV.late, fun d hd => ?_⟩
    · rcases hs.fresh k hk with h1 | h1
      · exact hV.old k h1 hlt'
      · have := s.since.size; exact absurd hlt' (by show ¬ k < m0.w.heap.size; have : m0.w.heap.size ≤ m.w.heap.size := this; omega)
    · have hm := mineLe _ _ k hn
      rcases hs.fresh k hk with h1 | h1
      · exact hV.mine k h1 hm
      · obtain ⟨j, b, v, h2, h3, h4, h5⟩ := hm
        have := s.inv.lt k (s.inv.own 0 j b v k h2 h3 h4 h5)
        omega
    · obtain ⟨rfl, rfl, rfl⟩ := sub x Y2 st2 h1
      exact ⟨rfl, hst, hJ⟩
    · obtain ⟨D, h1, h2⟩ := hV.d d hd
      exact ⟨D, h1, quiet _ _ h2⟩

theorem actY_defer {C : Cx} {H : List (List Blk)} {op : Op} {tm : List PV} {top : List Blk} {K : PV → List Blk → Prop} (h : actY C H op tm top K) : isDefer op = false := by
  cases op <;> first | rfl | exact actK_defer (show actK C H _ tm top K from h)
theorem actY_wp {C : Cx} (hC : C.Ok) {r : Option Nat} {H : List (List Blk)} {o : Oper} {tm : List PV} {top : List Blk} {K : PV → List Blk → Prop} (h : actY C H o.op tm top K) {m0 : M0} {m : M} {a : Act} (hs : Full H m0 m a tm top)
    {next : Act → World → Prop} {Q : Exit → Act → World → Prop} (hn : ∀ pv top' v m', K pv top' → RP m' pv v → Full H m0 m' a tm top' → m.w.heap.size ≤ m'.w.heap.size → (∀ k, k < m.w.heap.size → (m'.U k ↔ m.U k)) → next (a.put o.dst v) m'.w) : o.wpIn (FW r) 0 C.P a m.w next Q := by
  have hdef := actY_defer h
  have plain : actK C H o.op tm top K → o.wpIn (FW r) 0 C.P a m.w next Q := fun h => by
    obtain ⟨pv, top', hk, hl, hg, hA⟩ := actK_step hC h
    exact oper_in hdef (hA m a hs.1.inv (hs.1.evR _) hs.1.free next Q fun v m' hT hρ hfr hI hR => hn pv top' v m' hk hR (hs.turn hg hT hl hρ hfr hI) hT.size hT.U)
  cases ho : o.op with
  | call c =>
    rw [ho] at h plain
    unfold actY at h
    dsimp only at h
    cases hcl : c.callee with
    | builtin b => rw [hcl] at h; exact plain h
    | invoke x n => rw [hcl] at h; exact plain h
    | value f =>
      rw [hcl] at h
      cases f with
      | const v => exact plain h
      | global g => exact plain h
      | func g => exact plain h
      | tmp t =>
        dsimp only at h
        obtain ⟨p, hp, h⟩ := getK_spec.1 h
        split at h
        case h_2 => exact plain h
        rename_i Y0
        obtain ⟨ps, h, hl, hr⟩ := evsK_spec (ys := o.op.operands.toList) h (fun x hx => by rw [ho]; simp only [Op.operands, Call.operands, hcl, Array.toList_append]; exact List.mem_append_right _ hx)
        unfold yieldK at h
        obtain ⟨ys, h, hyl, hyr⟩ := yvsK_spec ps _ h
        obtain ⟨i, Y, st, h, hb⟩ := genK_spec top 0 _ h
        rw [Nat.zero_add] at h
        split at h
        case h_2 => exact h.elim
        rename_i k
        obtain ⟨rfl, hP, hx, ht, hf⟩ := h
        obtain ⟨hlt, ht⟩ := setK_spec.1 ht
        have hf := (setK_spec.1 hf).2
        obtain ⟨hS, V, hV⟩ := hs
        obtain ⟨hH, hst, hJ⟩ := hV.gen i _ _ hb
        have htl : t < a.tmps.size := by rw [hS.size]; exact (List.getElem?_eq_some_iff.1 hp).1
        have hv := hS.rel t _ _ hp (Array.getElem?_eq_getElem htl)
        have hev : a.eval (.tmp t) = a.tmps[t] := by simp [Act.eval, Array.getD, htl]
        generalize a.tmps[t] = v at hv hev
        cases hv with
        | yld _ _ hok =>
          obtain ⟨_, L, rfl, hround⟩ := hok
          obtain ⟨fn, tmps, assign, body, hyld, hR⟩ := hround k ys V m.U m.w (c.args.map a.eval) hx hJ hV.used hS.inv.lt (by rw [hyl, hl]; simp) (fun j y u hy hu => by
            refine hyr m j y u hy (fun p hp => ?_)
            rw [Array.getElem?_map] at hu
            obtain ⟨x, hx, rfl⟩ := Option.map_eq_some_iff.1 hu
            exact hr m a (hS.evR _) _ p x hp (by simpa using hx))
          rw [hP] at hyld hR
          refine ⟨fun _ _ => trivial, ?_⟩
          rw [Oper.semAt_eq _ _ _ (fun c' hc' => by rw [ho] at hc'; cases hc')]
          have hrun : (execOp a.eval o).run C.P m.w = .ok (.round L fn tmps assign body) m.w := by
            simp only [execOp, ho, resolve, hcl, hev, Deferred.ofValue, Sem.run_bind, Sem.run_pure, Result.andThen_ok, invoke, Array.empty_append]
            exact hyld
          rw [hrun]
          refine ⟨fun h => (by cases h), RoundIn.mono (show RoundIn (FW r) 0 C.P L fn tmps assign body m.w _ from hR) ?_⟩
          rintro e w' ⟨b, U', V', rfl, hs, hJ'⟩
          cases b with
          | true =>
            obtain ⟨hF, _⟩ := Full.yield (st' := some (k + 1)) ⟨hS, V, hV⟩ hb hV hs hJ'
            exact hn (.kb true) _ (.bool true) ⟨w', m.ρ, U'⟩ ht (.kb true) hF hs.size hs.iff
          | false =>
            obtain ⟨hF, _⟩ := Full.yield (st' := none) ⟨hS, V, hV⟩ hb hV hs hJ'
            exact hn (.kb false) _ (.bool false) ⟨w', m.ρ, U'⟩ hf (.kb false) hF hs.size hs.iff
  | _ => rw [ho] at h plain; exact plain h
end Go.Proofs.Ve

/- Literal rows: they are marked when they are turned to their own type; a region in the order of its text. -/
set_option linter.all false
namespace Go.Proofs.Ve
open Go

theorem RD.mark {w w' : World} {ok ok' : Nat → Prop} (hc : ∀ a, w'.cell? a = w.cell? a) (ho : ∀ k, ok k → ok' k) {x : DV} {v : Value} (h : RD w ok x v) : RD w' ok' x v := by
  induction h with
  | bool b => exact .bool b
  | int k n => exact .int k n
  | str s => exact .str s
  | sl sz xs A n c ad u hn hcc hm hA hs hcell hr ih =>
    exact .sl sz xs A n c ad u hn hcc hm hA hs (fun i x j y hx hy => ⟨ho _ (hcell i x j y hx hy).1, (hc _).trans (hcell i x j y hx hy).2⟩) ih
structure Mark (m : M) (w' : World) (g : Nat) : Prop where
  os : w'.os = m.w.os
  tape : w'.tape = m.w.tape
  output : w'.output = m.w.output
  size : w'.heap.size = m.w.heap.size
  heap : ∀ k, k ≠ g → w'.heap[k]? = m.w.heap[k]?
  cell : ∀ a, w'.cell? a = m.w.cell? a
  free : ¬ m.U g
theorem RP.mark {m : M} {w' : World} {g : Nat} (h : Mark m w' g) {p : PV} {v : Value} (hp : RP m p v) : RP ⟨w', m.ρ, m.U⟩ p v := by
  have ok : ∀ k, m.ok k → (⟨w', m.ρ, m.U⟩ : M).ok k := fun k hk => ⟨by show k < w'.heap.size; rw [h.size]; exact hk.1, hk.2⟩
  induction hp with
  | any v => exact .any v
  | kb b => exact .kb b
  | ub b => exact .ub b
  | d x v hx => exact .d x v (hx.mark h.cell ok)
  | nils => exact .nils
  | emp ad => exact .emp ad
  | row l i n N c A hl hn hc => exact .row l i n N c A hl hn hc
  | ptr l i o g hl => exact .ptr l i o g hl
  | rptr l i sz e j g N c hl => exact .rptr l i sz e j g N c hl
  | iptr cs ad u hc hr => exact .iptr cs ad u (fun j y hy => ⟨ok _ (hc j y hy).1, (h.cell _).trans (hc j y hy).2⟩) (fun j y hy => (hr j y hy).mark h.cell ok)
  | func fn fs cs fv cv h1 h2 h3 h4 ih1 ih2 => exact .func fn fs cs fv cv h1 h2 ih1 ih2
  | agg cs vs h1 h2 ih => exact .agg cs vs h1 ih
  | tuple cs vs h1 h2 ih => exact .tuple cs vs h1 ih
  | yld Y v h => exact .yld Y v h
theorem BlkOk.mark {m : M} {w' : World} {g : Nat} (h : Mark m w' g) {l i : Nat} {b : Blk} (hu : ∀ v k, b.live = true → m.ρ l i = some v → blkOf v = some k → m.U k) (hb : BlkOk m l i b) : BlkOk ⟨w', m.ρ, m.U⟩ l i b := by
  have ok : ∀ k, m.ok k → (⟨w', m.ρ, m.U⟩ : M).ok k := fun k hk => ⟨by show k < w'.heap.size; rw [h.size]; exact hk.1, hk.2⟩
  cases b with
  | dead => trivial
  | gen Y st => trivial
  | box cs =>
    intro v hv
    obtain ⟨g', vs, e, rfl, hg, hs, hc⟩ := hb v hv
    exact ⟨g', vs, e, rfl, (h.heap g' (fun e => h.free (e ▸ hu _ g' rfl hv rfl))).trans hg, hs, fun j p u hj hx => RP.mark (m := m.up l) ⟨h.os, h.tape, h.output, h.size, h.heap, h.cell, h.free⟩ (hc j p u hj hx)⟩
  | row e sz xs =>
    intro v hv
    obtain ⟨h0, h1, flat, ho, hc⟩ := hb v hv
    exact ⟨h0, h1, flat, ownsRow_same ho (fun k hk => h.heap k (fun e => h.free (e ▸ hu _ k rfl hv hk))), fun i x j y u hx hy hv => (hc i x j y u hx hy hv).mark h.cell ok⟩
theorem Inv.mark {m : M} {top : List Blk} {H : List (List Blk)} (hi : Inv m top H) {w' : World} {g : Nat} (h : Mark m w' g) : Inv ⟨w', m.ρ, m.U⟩ top H :=
  ⟨fun l i b hb => (hi.blk l i b hb).mark h (fun v k hl hv hk => hi.own l i b v k hb hl hv hk), hi.inj, hi.own, fun k hk => by show k < w'.heap.size; rw [h.size]; exact hi.lt k hk⟩
theorem noGenB_spec : ∀ {top : List Blk}, noGenB top = true → ∀ (i : Nat) (Y : Yield) (st : Option Nat), top[i]? ≠ some (Blk.gen Y st)
  | [], _, i, Y, st => by simp
  | b :: top, h, i, Y, st => by
    intro hb
    have hb2 : noGenB top = true ∧ ∀ Y st, b ≠ .gen Y st := by
      cases b with
      | gen Y st => cases (show false = true from h)
      | dead => exact ⟨h, fun _ _ e => by cases e⟩
      | box cs => exact ⟨h, fun _ _ e => by cases e⟩
      | row e sz xs => exact ⟨h, fun _ _ e => by cases e⟩
    cases i with
    | zero => simp at hb; exact hb2.2 _ _ hb
    | succ i => exact noGenB_spec hb2.1 i Y st (by simpa using hb)
theorem Full.mark {H : List (List Blk)} {m0 : M0} {m : M} {a : Act} {tm : List PV} {top : List Blk} (hs : Full H m0 m a tm top) {w' : World} {g : Nat} (h : Mark m w' g) (h0 : m0.w.heap.size ≤ g) (hn : noGenB top = true) : Full H m0 ⟨w', m.ρ, m.U⟩ a tm top := by
  obtain ⟨s, V, c⟩ := hs
  have t := s.since
  have q : ∀ k o, Quiet m top V k o → Quiet ⟨w', m.ρ, m.U⟩ top V k o := fun k o q => ⟨(h.heap k (fun e => h.free (e ▸ q.used))).trans q.heap, q.mine, q.out, q.used⟩
  refine ⟨⟨s.inv.mark h, s.size, fun j p v hp hv => (s.rel j p v hp hv).mark h, s.defers, s.free, ⟨h.os.trans t.os, h.tape.trans t.tape, h.output.trans t.output, Nat.le_trans t.size (Nat.le_of_eq h.size.symm), fun k hk h1 h2 => (h.heap k (fun e => by rw [e] at hk; exact absurd hk (Nat.not_lt.2 h0))).trans (t.heap k hk h1 h2), t.up, t.U, t.fresh⟩, s.tsz, s.prot⟩, V, ?_⟩
  exact ⟨c.one, c.used, c.more, c.old, c.mine, fun i Y st hi => absurd hi (noGenB_spec hn i Y st), fun k o hz => q k o (c.z k o hz), c.nd, c.late, fun d hd => by
    obtain ⟨D, h1, h2⟩ := c.d d hd
    exact ⟨D, h1, q _ _ h2⟩⟩
theorem freeze_heap (w : World) (a : Addr) (n k : Nat) (h : k ≠ a.block) : (w.freeze a n).heap[k]? = w.heap[k]? := by
  unfold World.freeze
  split
  · rfl
  · show (w.heap.modify a.block _)[k]? = _
    rw [Array.getElem?_modify, if_neg (fun e => h e.symm)]
theorem freeze_size (w : World) (a : Addr) (n : Nat) : (w.freeze a n).heap.size = w.heap.size := by
  unfold World.freeze
  split
  · rfl
  · simp
theorem freeze_cell (w : World) (a : Addr) (n : Nat) (b : Addr) : (w.freeze a n).cell? b = w.cell? b := by
  by_cases h : b.block = a.block
  · unfold World.freeze
    split
    · rfl
    · unfold World.cell?
      show (match (w.heap.modify a.block _)[b.block]? with | some (.cells c _ _) => if b.spot.isSome then none else c[b.off]? | _ => none) = _
      rw [Array.getElem?_modify, if_pos h.symm]
      cases w.heap[b.block]? with
      | none => rfl
      | some o => cases o <;> rfl
  · unfold World.cell?
    rw [freeze_heap w a n _ h]
theorem run_mark {P : Program} {s e : TypeId} (hs : P.underlying s = some (.slice e)) (he : P.underlying e = some (.int .u8)) (m : M) (g n c : Nat) (hg : ¬ m.U g) :
    ∃ w', (convert s s (.slice (some ⟨g, 0, none⟩) n c)).run P m.w = .ok (.slice (some ⟨g, 0, none⟩) n c) w' ∧ Mark m w' g := by
  cases hsh : m.w.shape? g with
  | none => exact ⟨m.w, by simp [convert, run_underlying hs, run_underlying he, markStringish, hsh], ⟨rfl, rfl, rfl, rfl, fun _ _ => rfl, fun _ => rfl, hg⟩⟩
  | some x =>
    obtain ⟨t, k⟩ := x
    refine ⟨m.w.freeze ⟨g, k, none⟩ 1, by simp [convert, run_underlying hs, run_underlying he, markStringish, hsh], ⟨?_, ?_, ?_, freeze_size _ _ _, fun j hj => freeze_heap _ _ _ _ hj, fun b => freeze_cell _ _ _ _, hg⟩⟩ <;> (unfold World.freeze; split <;> rfl)
/-- A literal: where it lies. -/
theorem build_lit {C : Cx} (hC : C.Ok) {H : List (List Blk)} {o : Oper} {t n : Nat} {parts : Array (Nat × Operand)} (ho : o.op = .buildSlice t (n + 1) parts) {tm : List PV} {top : List Blk} {K : PV → List Blk → Prop} (h : opK C H o.op tm top K) :
    ∃ pv, K pv top ∧ ∀ (m : M) (a : Act), Inv m top H → EvR m a tm o.op.operands.toList → ∃ w', (execOp a.eval o).run C.P m.w = .ok (.value (.slice (some ⟨m.w.heap.size, 0, none⟩) (n + 1) (n + 1))) w' ∧
      Grow m ⟨w', m.ρ, m.U⟩ ∧ m.w.heap.size < w'.heap.size ∧ Inv ⟨w', m.ρ, m.U⟩ top H ∧ RP ⟨w', m.ρ, m.U⟩ pv (.slice (some ⟨m.w.heap.size, 0, none⟩) (n + 1) (n + 1)) := by
  rw [ho] at h
  obtain ⟨r, hr, ht_, h_⟩ := lookK_spec h
  clear h
  subst ht_
  have h := h_
  clear h_
  split at h
  case h_2 => exact h.elim
  rename_i e hty0
  obtain ⟨r', hr', ht_, h_⟩ := lookK_spec h
  clear h
  subst ht_
  have h := h_
  clear h_
  simp only [ifK] at h
  split at h
  case h_2 => exact h.elim
  rename_i hpos
  have hpos : 0 < r'.size := by simpa [Nat.blt_eq] using hpos
  split at h
  case h_2 => exact h.elim
  rename_i hmax
  have hmax : (n + 1) * r'.size ≤ 16777216 := Nat.le_of_ble_eq_true hmax
  obtain ⟨es, h, hel, hes, hfill⟩ := elems_fill (xs := o.op.operands.toList) parts.toList 0 _ h (fun x hx => by rw [ho]; simp only [Op.operands, List.toList_toArray]; exact List.mem_map_of_mem hx)
  rw [lenK_spec] at h
  split at h
  case h_2 => exact h.elim
  rename_i hn
  have hn := Nat.eq_of_beq_eq_true hn
  obtain ⟨i, z, d, hi, hs, hb, hz, hzz, hd, hty⟩ := row_info hC hr
  obtain ⟨i', z', d', hi', hs', hb', hz', hzz', hd', hty'⟩ := row_info hC hr'
  rw [hty0] at hty
  obtain ⟨e, rfl⟩ : ∃ e, d = .slice e := by cases d <;> simp [tyOf] at hty <;> exact ⟨_, rfl⟩
  simp only [tyOf, Ty.slice.injEq] at hty
  subst hty
  have hrun0 : ∀ (m : M) (a : Act), EvR m a tm o.op.operands.toList → ∃ arr : Array Value, arr.size = (n + 1) * r'.size ∧ (execOp a.eval o).run C.P m.w = .ok (.value (.slice (some ⟨m.w.heap.size, 0, none⟩) (n + 1) (n + 1))) (m.w.alloc (.cells arr r'.t (0, 0))) ∧
      ∀ (i : Nat) x (j : Nat) y u, es[i]? = some x → x[j]? = some y → arr[(0 + i) * r'.size + j]? = some u → RD m.w m.ok y u := by
    intro m a he
    obtain ⟨zc, hzc⟩ : ∃ zc : Array Value, zc = if (n + 1) * r'.size = 0 then #[] else z'.cells := ⟨_, rfl⟩
    obtain ⟨arr, h1, h2, _, h4⟩ := hfill m a ((Array.range ((n + 1) * r'.size)).map (zc[· % zc.size]!)) he (by simp [← hel, hn])
    have hsz : arr.size = (n + 1) * r'.size := by rw [h2]; simp
    have hrun : (execOp a.eval o).run C.P m.w = .ok (.value (.slice (some ⟨m.w.heap.size, 0, none⟩) (n + 1) (n + 1))) (m.w.alloc (.cells arr r'.t (0, 0))) := by
      refine ex_run (s := Instr.buildSlice r.t (n + 1) (parts.map fun x => (x.1, a.eval x.2))) (by simp [execOp, ho]) ?_
      simp only [Instr.buildSlice, Sem.run_bind, run_under hd, Result.andThen_ok, run_size hi', hs']
      rw [if_neg (by omega)]
      by_cases h0 : (n + 1) * r'.size = 0
      · rw [if_pos h0] at hzc
        rw [if_pos h0, ← hzc]
        simp only [Sem.run_bind, Sem.run_pure, Result.andThen_ok, Array.toList_map]
        rw [h1]
        simp [newRow]
      · rw [if_neg h0] at hzc
        rw [if_neg h0]
        simp only [Sem.run_bind, run_zero hi' hz', Sem.run_pure, Result.andThen_ok, Array.toList_map]
        rw [← hzc, h1]
        simp [newRow]
    exact ⟨arr, hsz, hrun, h4⟩
  change K (.d (.sl es)) top at h
  refine ⟨_, h, fun m a hinv he => ?_⟩
  obtain ⟨arr, hsz, hrun, h4⟩ := hrun0 m a he
  have hsz' : (m.w.alloc (.cells arr r'.t (0, 0))).heap.size = m.w.heap.size + 1 := by simp
  have hg : Grow m ⟨m.w.alloc (.cells arr r'.t (0, 0)), m.ρ, m.U⟩ := ⟨rfl, rfl, rfl, by rw [hsz']; omega, fun k hk => heap_old _ _ _ hk, fun _ _ _ h => h, fun _ _ => Iff.rfl⟩
  refine ⟨_, hrun, hg, by rw [hsz']; omega, ⟨fun l j b hb => (hinv.blk l j b hb).keep hg.keep rfl (fun v k hl hv hk => heap_old _ _ _ (hinv.lt k (hinv.own l j b v k hb hl hv hk))), hinv.inj, hinv.own, fun k hk => Nat.lt_of_lt_of_le (hinv.lt k hk) hg.size⟩, ?_⟩
  have hn1 : es.length = n + 1 := hn
  have cell : ∀ (i : Nat) x (j : Nat) y, es[i]? = some x → x[j]? = some y → ∃ u, arr[i * r'.size + j]? = some u := fun i x j y hx hy => by
    have h1 : i < n + 1 := by rw [← hn1]; exact (List.getElem?_eq_some_iff.1 hx).1
    have h2 : j < r'.size := by rw [← hes x (List.mem_of_getElem? hx)]; exact (List.getElem?_eq_some_iff.1 hy).1
    have h3 : i * r'.size + r'.size ≤ (n + 1) * r'.size := by rw [← Nat.succ_mul]; exact Nat.mul_le_mul_right _ h1
    exact ⟨_, Array.getElem?_eq_getElem (by omega)⟩
  refine .d _ _ (.sl r'.size _ _ _ _ ⟨m.w.heap.size, 0, none⟩ (fun k => arr.getD k undef) hn1 (Nat.le_refl _) (by have : n + 1 ≤ (n + 1) * r'.size := Nat.le_mul_of_pos_right _ hpos; omega) (fun _ => rfl) hes (fun i x j y hx hy => ?_) (fun i x j y hx hy => ?_))
  · obtain ⟨u, hu⟩ := cell i x j y hx hy
    refine ⟨⟨?_, fun hU => ?_⟩, ?_⟩
    · show m.w.heap.size < (m.w.alloc (.cells arr r'.t (0, 0))).heap.size; omega
    · have := hinv.lt _ hU; simp at this
    · rw [add_none, Nat.zero_add]
      have hh := heap_new m.w (.cells arr r'.t (0, 0))
      show (m.w.alloc (.cells arr r'.t (0, 0))).cell? ⟨m.w.heap.size, i * r'.size + j, none⟩ = _
      simp only [World.cell?, hh, hu]
      simp [hu]
  · obtain ⟨u, hu⟩ := cell i x j y hx hy
    have := (h4 i x j y u hx hy (by rw [Nat.zero_add]; exact hu)).keep hg.keep
    simpa [hu] using this
/-! ### a region -/
/-- temporaries that hold literals' rows, as they were made -/
def Lits (m0 : M0) (m : M) (a : Act) (ds : List Nat) : Prop := ∀ d ∈ ds, ∃ k n c, a.tmps[d]? = some (.slice (some ⟨k, 0, none⟩) n c) ∧ m0.w.heap.size ≤ k ∧ k < m.w.heap.size ∧ ¬ m.U k
theorem rmN_spec {o : Option Nat} {ds : List Nat} {d : Nat} (h : d ∈ rmN o ds) : d ∈ ds ∧ o ≠ some d := by
  cases o with
  | none => exact ⟨h, fun e => by cases e⟩
  | some e =>
    induction ds with
    | nil => cases h
    | cons x xs ih =>
      have h : d ∈ (match Nat.beq x e with | true => rmN (some e) xs | false => x :: rmN (some e) xs) := h
      cases hb : Nat.beq x e with
      | true => rw [hb] at h; exact ⟨List.mem_cons_of_mem _ (ih h).1, (ih h).2⟩
      | false =>
        rw [hb] at h
        rcases List.mem_cons.1 h with rfl | h
        · refine ⟨List.mem_cons_self .., fun e' => ?_⟩
          cases e'
          rw [Nat.beq_refl] at hb; cases hb
        · exact ⟨List.mem_cons_of_mem _ (ih h).1, (ih h).2⟩
theorem memB_spec : ∀ {ds : List Nat} {t : Nat}, memB ds t = true → t ∈ ds
  | [], t, h => by cases h
  | x :: xs, t, h => by
    have h : (match Nat.beq x t with | true => true | false => memB xs t) = true := h
    cases hb : Nat.beq x t with
    | true => rw [Nat.eq_of_beq_eq_true hb]; exact List.mem_cons_self ..
    | false => rw [hb] at h; exact List.mem_cons_of_mem _ (memB_spec h)
theorem Lits.next {m0 : M0} {m m' : M} {a : Act} {ds : List Nat} (h : Lits m0 m a ds) (hsz : m.w.heap.size ≤ m'.w.heap.size) (hU : ∀ k, k < m.w.heap.size → (m'.U k ↔ m.U k)) (o : Option Nat) (v : Value) : Lits m0 m' (a.put o v) (rmN o ds) := by
  intro d hd
  obtain ⟨h1, h2⟩ := rmN_spec hd
  obtain ⟨k, n, c, q1, q2, q3, q4⟩ := h d h1
  refine ⟨k, n, c, ?_, q2, Nat.lt_of_lt_of_le q3 hsz, fun hu => q4 ((hU k q3).1 hu)⟩
  cases o with
  | none => exact q1
  | some e =>
    simp only [Act.put]
    rw [Array.getElem?_setIfInBounds_ne (fun e' => h2 (by rw [e'])), q1]
theorem actL_wp {C : Cx} (hC : C.Ok) {r : Option Nat} {H : List (List Blk)} {o : Oper} {ds : List Nat} {tm : List PV} {top : List Blk} {K : PV → List Blk → Prop} (h : actL C H o.op ds tm top K) {m0 : M0} {m : M} {a : Act} (hs : Full H m0 m a tm top) (hl : Lits m0 m a ds)
    {next : Act → World → Prop} {Q : Exit → Act → World → Prop} (hn : ∀ pv top' v m', K pv top' → RP m' pv v → Full H m0 m' a tm top' → ((∀ d, o.dst = some d → d < a.tmps.size) → Lits m0 m' (a.put o.dst v) (litsN o ds)) → next (a.put o.dst v) m'.w) : o.wpIn (FW r) 0 C.P a m.w next Q := by
  have plain : litD o = none → actY C H o.op tm top K → o.wpIn (FW r) 0 C.P a m.w next Q := fun hd h =>
    actY_wp hC h hs fun pv top' v m' hk hR hF hsz hU => hn pv top' v m' hk hR hF fun _ => by unfold litsN; rw [hd]; exact hl.next hsz hU _ _
  cases ho : o.op with
  | buildSlice t n parts =>
    cases n with
    | zero => rw [ho] at h plain; exact plain (by unfold litD; rw [ho]) h
    | succ n =>
      have h : opK C H o.op tm top K := by rw [ho] at h ⊢; exact h
      obtain ⟨pv, hk, hb⟩ := build_lit hC ho h
      obtain ⟨w', hrun, hg, hlt, hI, hR⟩ := hb m a hs.1.inv (hs.1.evR _)
      have hd : isDefer o.op = false := by rw [ho]; rfl
      refine oper_in hd ?_
      unfold Oper.wp
      rw [hrun]
      have hF := hs.turn (GenLe.refl _) (hg.turn top) (Nat.le_refl _) (fun _ _ _ => rfl) (fun j u k h1 h2 => by omega) hI
      refine hn pv top _ ⟨w', m.ρ, m.U⟩ hk hR hF fun hin d hd => ?_
      unfold litsN at hd
      have hlit : litD o = o.dst := by unfold litD; rw [ho]
      rw [hlit] at hd
      have old := hl.next hg.size hg.U o.dst (.slice (some ⟨m.w.heap.size, 0, none⟩) (n + 1) (n + 1))
      cases hdst : o.dst with
      | none => rw [hdst] at hd old; exact old d hd
      | some e =>
        rw [hdst] at hd old
        rcases List.mem_cons.1 hd with rfl | hd
        · refine ⟨m.w.heap.size, n + 1, n + 1, ?_, hs.1.since.size, hlt, fun hu => ?_⟩
          · have := hin d hdst
            simp [Act.put, this]
          · have := hs.1.inv.lt _ hu; omega
        · exact old d hd
  | convert s d x =>
    have hd : litD o = none := by unfold litD; rw [ho]
    rw [ho] at h plain
    have plain := plain hd
    unfold actL at h
    dsimp only at h
    cases x with
    | const v => exact plain h
    | global g => exact plain h
    | func g => exact plain h
    | tmp t =>
      dsimp only at h
      obtain ⟨p, hp, g1⟩ := getK_spec.1 h
      clear h
      split at g1
      case h_2 => exact plain g1
      rename_i xs
      split at g1
      case h_2 => exact plain g1
      rename_i hsd
      have hsd := Nat.eq_of_beq_eq_true hsd
      subst hsd
      unfold markK at g1
      simp only [ifK] at g1
      split at g1
      case h_2 => exact g1.elim
      rename_i hmem
      split at g1
      case h_2 => exact g1.elim
      rename_i hng
      obtain ⟨rs, hrs, ht_, g2⟩ := lookK_spec g1
      clear g1
      subst ht_
      split at g2
      case h_2 => exact g2.elim
      rename_i e hty0
      obtain ⟨re, hre, ht_, g3⟩ := lookK_spec g2
      clear g2
      subst ht_
      split at g3
      case h_2 => exact g3.elim
      rename_i hty1
      obtain ⟨i, z, d1, hi, hsz, hb, hz, hzz, hd1, hty⟩ := row_info hC hrs
      obtain ⟨i', z', d2, hi', hsz', hb', hz', hzz', hd2, hty'⟩ := row_info hC hre
      rw [hty0] at hty
      rw [hty1] at hty'
      obtain rfl : d1 = .slice re.t := by cases d1 <;> simp [tyOf] at hty <;> rw [hty]
      obtain rfl : d2 = .int .u8 := by cases d2 <;> simp [tyOf] at hty' <;> rw [hty']
      obtain ⟨k, n, c, q1, q2, q3, q4⟩ := hl t (memB_spec hmem)
      have hev : a.eval (.tmp t) = .slice (some ⟨k, 0, none⟩) n c := by
        have htl := (Array.getElem?_eq_some_iff.1 q1).1
        simp [Act.eval, Array.getD, htl]
        have := (Array.getElem?_eq_some_iff.1 q1).2
        exact this
      obtain ⟨w', hrun, hM⟩ := run_mark hd1 hd2 m k n c q4
      have hdf : isDefer o.op = false := by rw [ho]; rfl
      refine oper_in hdf ?_
      unfold Oper.wp
      rw [ex_run (s := convert rs.t rs.t (a.eval (.tmp t))) (by simp [execOp, ho]) (by rw [hev]; exact hrun)]
      have hR : RP m (.d (.sl xs)) (.slice (some ⟨k, 0, none⟩) n c) := hs.1.rel t _ _ hp q1
      refine hn _ top _ ⟨w', m.ρ, m.U⟩ g3 (hR.mark hM) (hs.mark hM q2 hng) fun _ => ?_
      unfold litsN; rw [hd]
      exact Lits.next (m' := ⟨w', m.ρ, m.U⟩) hl (Nat.le_of_eq hM.size.symm) (fun _ _ => Iff.rfl) _ _
  | _ => exact plain (by unfold litD; rw [ho]) (by rw [ho] at h ⊢; exact h)
theorem put_lt {o : Oper} {tm : List PV} {p : PV} {K : List PV → Prop} (h : putDst o tm p K) {d : Nat} (hd : o.dst = some d) {n : Nat} (hn : n = tm.length) : d < n := by
  unfold putDst at h
  rw [hd] at h
  rw [hn]
  exact (setK_spec.1 h).1
end Go.Proofs.Ve

/- A row of the frame's, frozen: plain data from then on; regions in the text's order. -/
set_option linter.all false
namespace Go.Proofs.Ve
open Go

/-- the machine without a row's block -/
def M.unuse (m : M) (v : Value) : M := ⟨m.w, m.ρ, fun k => m.U k ∧ blkOf v ≠ some k⟩
theorem unuse_keep (m : M) (v : Value) : Keep m (m.unuse v) := ⟨fun _ _ _ h => h, Nat.le_refl _, fun k hk => ⟨fun hu => hk.2 hu.1, rfl⟩⟩
/-- p' is p, where row i is plain. -/
def SubOk (i : Nat) (xs : List (List DV)) (p p' : PV) : Prop :=
  ∀ m m' : M, (∀ q v, RP m q v → RP m' q v) → (∀ n v, RP m (.row 0 i n) v → RP m' (.d (.sl (xs.take n))) v) → ∀ v, RP m p v → RP m' p' v
theorem SubOk.refl (i : Nat) (xs : List (List DV)) (p : PV) : SubOk i xs p p := fun _ _ h _ v hv => h p v hv
structure BlkSub (i : Nat) (xs : List (List DV)) (top top' : List Blk) : Prop where
  len : top'.length = top.length
  get : ∀ (j : Nat) b', top'[j]? = some b' → (j = i ∧ b' = .dead) ∨ (j ≠ i ∧ ∃ b, top[j]? = some b ∧ (b' = b ∨ ∃ cs cs', b = .box cs ∧ b' = .box cs' ∧ cs'.length = cs.length ∧ ∀ (k : Nat) p', cs'[k]? = some p' → ∃ p, cs[k]? = some p ∧ SubOk i xs p p'))
theorem BlkSub.live {i : Nat} {xs : List (List DV)} {top top' : List Blk} (h : BlkSub i xs top top') {j : Nat} {b' : Blk} (h1 : top'[j]? = some b') (h2 : b'.live = true) : j ≠ i ∧ ∃ b, top[j]? = some b ∧ b.live = true := by
  rcases h.get j b' h1 with ⟨_, rfl⟩ | ⟨h3, b, h4, rfl | ⟨cs, cs', rfl, rfl, _⟩⟩
  · cases h2
  · exact ⟨h3, _, h4, h2⟩
  · exact ⟨h3, _, h4, rfl⟩
theorem BlkSub.gen {i : Nat} {xs : List (List DV)} {top top' : List Blk} (h : BlkSub i xs top top') {j : Nat} {Y : Yield} {st : Option Nat} (h1 : top'[j]? = some (.gen Y st)) : top[j]? = some (.gen Y st) := by
  rcases h.get j _ h1 with ⟨_, h2⟩ | ⟨h3, b, h4, h5 | ⟨cs, cs', _, h5, _⟩⟩
  · cases h2
  · rw [h5]; exact h4
  · cases h5
theorem noGenB_of : ∀ {top : List Blk}, (∀ (i : Nat) (Y : Yield) (st : Option Nat), top[i]? ≠ some (Blk.gen Y st)) → noGenB top = true
  | [], _ => rfl
  | b :: top, h => by
    have ih : noGenB top = true := noGenB_of fun i Y st hi => h (i + 1) Y st (by simpa using hi)
    cases b with
    | gen Y st => exact absurd rfl (h 0 Y st)
    | _ => exact ih
theorem Full.freeze {H : List (List Blk)} {m0 : M0} {m : M} {a : Act} {tm tm' : List PV} {top top' : List Blk} (hs : Full H m0 m a tm top) (h0 : ∀ k, ¬ Mine m0.toM m0.g k) (hn : noGenB top = true) {i e sz : Nat} {xs : List (List DV)} (hb : top[i]? = some (.row e sz xs))
    (ht1 : tm'.length = tm.length) (ht2 : ∀ (j : Nat) p', tm'[j]? = some p' → ∃ p, tm[j]? = some p ∧ SubOk i xs p p') (hT : BlkSub i xs top top') :
    ∃ m' : M, m'.w = m.w ∧ (∀ k, m'.U k → m.U k) ∧ (∀ k, k < m0.w.heap.size → (m'.U k ↔ m.U k)) ∧ Full H m0 m' a tm' top' := by
  obtain ⟨s, V, c⟩ := hs
  obtain ⟨v0, hρ0, hv0⟩ : ∃ v0 : Value, (∀ k, blkOf v0 = some k → m.ρ 0 i = some v0) ∧ ∀ v, m.ρ 0 i = some v → v = v0 := by
    cases hρ : m.ρ 0 i with
    | none => exact ⟨.nilFunc, (fun k h => by cases h), (fun v h => by cases h)⟩
    | some v0 => exact ⟨v0, (fun _ _ => rfl), (fun v h => by cases h; rfl)⟩
  have hK := unuse_keep m v0
  have live : (Blk.row e sz xs).live = true := rfl
  have hmine : ∀ k, blkOf v0 = some k → Mine m top k := fun k hk => ⟨i, _, v0, hb, live, hρ0 k hk, hk⟩
  have hk0 : ∀ k, blkOf v0 = some k → m0.w.heap.size ≤ k := fun k hk => (s.since.fresh k (hmine k hk)).elim id (fun h => absurd h (h0 k))
  have r1 : ∀ q v, RP m q v → RP (m.unuse v0) q v := fun q v h => h.keep hK
  have r2 : ∀ n v, RP m (.row 0 i n) v → RP (m.unuse v0) (.d (.sl (xs.take n))) v := fun n v h => by
    cases h with
    | row _ _ _ N cc A h1 h2 h3 =>
      refine .d _ _ (own_rd s.inv hb h1 h2 h3 rfl (fun k hk => ⟨hk.1, fun hu => hk.2 hu.1⟩) (fun k hk hu => hu.2 ?_))
      rw [← hv0 _ h1]; exact hk
  have other : ∀ l j b v k, getB top' H l j = some b → b.live = true → m.ρ l j = some v → blkOf v = some k → (∃ b0, getB top H l j = some b0 ∧ b0.live = true) ∧ blkOf v0 ≠ some k := fun l j b v k h1 h2 h3 h4 => by
    have h1' : (∃ b0, getB top H l j = some b0 ∧ b0.live = true) ∧ ¬ (l = 0 ∧ j = i) := by
      cases l with
      | zero =>
        obtain ⟨e1, e2⟩ := hT.live h1 h2
        exact ⟨e2, fun h => e1 h.2⟩
      | succ l => exact ⟨⟨b, h1, h2⟩, fun h => by cases h.1⟩
    refine ⟨h1'.1, fun h5 => h1'.2 ?_⟩
    obtain ⟨⟨b0, h6, h7⟩, _⟩ := h1'
    exact s.inv.inj l j b0 0 i _ v v0 k h6 h7 hb live h3 (hρ0 k h5) h4 h5
  have hinv : Inv (m.unuse v0) top' H := by
    refine ⟨fun l j b h1 => ?_, fun l j b l' j' b' v v' k h1 h2 h3 h4 h5 h6 h7 h8 => ?_, fun l j b v k h1 h2 h3 h4 => ?_, fun k hk => s.inv.lt k hk.1⟩
    · cases l with
      | succ l => exact (s.inv.blk (l + 1) j b h1).keep hK rfl (fun _ _ _ _ _ => rfl)
      | zero =>
        rcases hT.get j b h1 with ⟨_, rfl⟩ | ⟨h3, b0, h4, rfl | ⟨cs, cs', rfl, rfl, h5, h6⟩⟩
        · exact True.intro
        · exact (s.inv.blk 0 j _ h4).keep hK rfl (fun _ _ _ _ _ => rfl)
        · intro v hv
          obtain ⟨g, vs, e', e1, e2, e3, e4⟩ := s.inv.blk 0 j _ h4 v hv
          refine ⟨g, vs, e', e1, e2, e3.trans h5.symm, fun k p' u hk hu => ?_⟩
          obtain ⟨p, hp, hsub⟩ := h6 k p' hk
          exact hsub m (m.unuse v0) r1 r2 u (e4 k p u hp hu)
    · obtain ⟨⟨c1, a1, a2⟩, _⟩ := other l j b v k h1 h2 h5 h7
      obtain ⟨⟨c2, b1, b2⟩, _⟩ := other l' j' b' v' k h3 h4 h6 h8
      exact s.inv.inj l j c1 l' j' c2 v v' k a1 a2 b1 b2 h5 h6 h7 h8
    · obtain ⟨⟨c1, a1, a2⟩, a3⟩ := other l j b v k h1 h2 h3 h4
      exact ⟨s.inv.own l j c1 v k a1 a2 h3 h4, a3⟩
  have hmn : ∀ k, Mine (m.unuse v0) top' k → Mine m top k := fun k ⟨j, b, v, h1, h2, h3, h4⟩ => by
    obtain ⟨_, b0, a1, a2⟩ := hT.live h1 h2
    exact ⟨j, b0, v, a1, a2, h3, h4⟩
  have q : ∀ k o, Quiet m top V k o → Quiet (m.unuse v0) top' V k o := fun k o q =>
    ⟨q.heap, fun h => q.mine (hmn k h), q.out, q.used, fun h => q.mine (hmine k h)⟩
  have t := s.since
  refine ⟨m.unuse v0, rfl, fun k h => h.1, fun k hk => ⟨fun h => h.1, fun h => ⟨h, fun e => absurd hk (Nat.not_lt.2 (hk0 k e))⟩⟩, ⟨⟨hinv, by rw [ht1]; exact s.size, fun j p' v hp hv => ?_, s.defers, fun j hj => s.free j (by rw [← hT.len]; exact hj), ⟨t.os, t.tape, t.output, t.size, t.heap, t.up, fun k hk => ?_, fun k hk => t.fresh k (hmn k hk)⟩, s.tsz, s.prot⟩, V, ?_⟩⟩
  · obtain ⟨p, hp, hsub⟩ := ht2 j p' hp
    exact hsub m (m.unuse v0) r1 r2 v (s.rel j p v hp hv)
  · refine Iff.trans ⟨fun h => h.1, fun h => ⟨h, fun e => ?_⟩⟩ (t.U k hk)
    have := hk0 k e
    exact absurd hk (Nat.not_lt.2 this)
  · exact ⟨fun x y Y1 s1 Y2 s2 h1 h2 => c.one x y Y1 s1 Y2 s2 (hT.gen h1) (hT.gen h2), fun k hk => ⟨c.used k hk, fun h => c.mine k hk (hmine k h)⟩, c.more, c.old, fun k hk h => c.mine k hk (hmn k h), fun x Y st hx => absurd (hT.gen hx) (noGenB_spec hn x Y st), fun k o hz => q k o (c.z k o hz), c.nd, c.late, fun d hd => by
      obtain ⟨D, h1, h2⟩ := c.d d hd
      exact ⟨D, h1, q _ _ h2⟩⟩

/-! ### .. by computing -/
theorem adoptsF_sub {i : Nat} {xs : List (List DV)} {one : PV → (PV → Prop) → Prop} (h1 : ∀ p K, one p K → ∃ p', K p' ∧ SubOk i xs p p') : ∀ (ps : List PV) (K : List PV → Prop), adoptsF one ps K → ∃ ps', K ps' ∧ ps'.length = ps.length ∧ ∀ (j : Nat) p', ps'[j]? = some p' → ∃ p, ps[j]? = some p ∧ SubOk i xs p p'
  | [], K, h => ⟨[], h, rfl, fun j p' hp => by simp at hp⟩
  | p :: ps, K, h => by
    rw [adoptsF_cons] at h
    obtain ⟨p', h, hs⟩ := h1 _ _ h
    obtain ⟨ps', h, hl, hh⟩ := adoptsF_sub h1 ps _ h
    refine ⟨p' :: ps', h, by simp [hl], fun j q hq => ?_⟩
    cases j with
    | zero => simp at hq; subst hq; exact ⟨p, rfl, hs⟩
    | succ j => exact hh j q (by simpa using hq)
theorem sbF_sub (i : Nat) (xs : List (List DV)) : ∀ (n : Nat) (p : PV) (K : PV → Prop), sbF i xs n p K → ∃ p', K p' ∧ SubOk i xs p p'
  | 0, p, K, h => ⟨p, h, .refl i xs p⟩
  | n + 1, p, K, h => by
    change sbOne i xs (sbF i xs n) p K at h
    have ih := adoptsF_sub (sbF_sub i xs n)
    cases p with
    | row l j k =>
      cases l with
      | succ l => exact ⟨_, h, .refl i xs _⟩
      | zero =>
        change (match Nat.beq j i with | true => K (.d (.sl (xs.take k))) | false => K (.row 0 j k)) at h
        cases hj : Nat.beq j i with
        | true =>
          rw [hj] at h
          obtain rfl := Nat.eq_of_beq_eq_true hj
          exact ⟨_, h, fun m m' _ h2 v hv => h2 k v hv⟩
        | false => rw [hj] at h; exact ⟨_, h, .refl i xs _⟩
    | agg cs =>
      obtain ⟨cs', h, hl, hh⟩ := ih cs _ h
      refine ⟨_, h, fun m m' h1 h2 v hv => ?_⟩
      cases hv with
      | agg _ vs e1 e2 => exact .agg _ _ (by rw [hl]; exact e1) (fun j p' u hp hu => by obtain ⟨p, hp0, hs⟩ := hh j p' hp; exact hs m m' h1 h2 u (e2 j p u hp0 hu))
    | tuple cs =>
      obtain ⟨cs', h, hl, hh⟩ := ih cs _ h
      refine ⟨_, h, fun m m' h1 h2 v hv => ?_⟩
      cases hv with
      | tuple _ vs e1 e2 => exact .tuple _ _ (by rw [hl]; exact e1) (fun j p' u hp hu => by obtain ⟨p, hp0, hs⟩ := hh j p' hp; exact hs m m' h1 h2 u (e2 j p u hp0 hu))
    | _ => exact ⟨_, h, .refl i xs _⟩
theorem sbB_sub {i : Nat} {xs : List (List DV)} : ∀ (top : List Blk) (K : List Blk → Prop), sbB i xs top K → ∃ top', K top' ∧ top'.length = top.length ∧ ∀ (j : Nat) b', top'[j]? = some b' → ∃ b, top[j]? = some b ∧ (b' = b ∨ ∃ cs cs', b = .box cs ∧ b' = .box cs' ∧ cs'.length = cs.length ∧ ∀ (k : Nat) p', cs'[k]? = some p' → ∃ p, cs[k]? = some p ∧ SubOk i xs p p')
  | [], K, h => ⟨[], h, rfl, fun j b hb => by simp at hb⟩
  | b :: top, K, h => by
    rw [sbB_cons] at h
    have key : ∀ b1, sbB i xs top (fun bs => K (b1 :: bs)) → (b1 = b ∨ ∃ cs cs', b = .box cs ∧ b1 = .box cs' ∧ cs'.length = cs.length ∧ ∀ (k : Nat) p', cs'[k]? = some p' → ∃ p, cs[k]? = some p ∧ SubOk i xs p p') →
        ∃ top', K top' ∧ top'.length = (b :: top).length ∧ ∀ (j : Nat) b', top'[j]? = some b' → ∃ b2, (b :: top)[j]? = some b2 ∧ (b' = b2 ∨ ∃ cs cs', b2 = .box cs ∧ b' = .box cs' ∧ cs'.length = cs.length ∧ ∀ (k : Nat) p', cs'[k]? = some p' → ∃ p, cs[k]? = some p ∧ SubOk i xs p p') := by
      intro b1 h hb1
      obtain ⟨top', h, hl, hh⟩ := sbB_sub top _ h
      refine ⟨b1 :: top', h, by simp [hl], fun j b' hb' => ?_⟩
      cases j with
      | zero => simp at hb'; subst hb'; exact ⟨b, rfl, hb1⟩
      | succ j => exact hh j b' (by simpa using hb')
    cases b with
    | box cs =>
      obtain ⟨cs', h, hl, hh⟩ := adoptsF_sub (sbF_sub i xs 3) cs _ h
      exact key (.box cs') h (.inr ⟨cs, cs', rfl, rfl, hl, hh⟩)
    | _ => exact key _ h (.inl rfl)
/-- the frame, some of its rows being plain -/
def Froze (H : List (List Blk)) (m0 : M0) (m : M) (a : Act) (K : List PV → List Blk → Prop) : Prop :=
  ∃ (m' : M) (tm' : List PV) (top' : List Blk), K tm' top' ∧ m'.w = m.w ∧ (∀ k, m'.U k → m.U k) ∧ (∀ k, k < m0.w.heap.size → (m'.U k ↔ m.U k)) ∧ Full H m0 m' a tm' top'
theorem frName_spec {H : List (List Blk)} {m0 : M0} {m : M} {a : Act} {tm : List PV} {top : List Blk} (hs : Full H m0 m a tm top) (h0 : ∀ k, ¬ Mine m0.toM m0.g k) (hn : noGenB top = true) {i : Nat} {K : List PV → List Blk → Prop} (h : frName i tm top K) :
    Froze H m0 m a fun tm' top' => K tm' top' ∧ noGenB top' = true := by
  obtain ⟨b, hb, h⟩ := getK_spec.1 h
  have same : K tm top → Froze H m0 m a fun tm' top' => K tm' top' ∧ noGenB top' = true := fun h => ⟨m, tm, top, ⟨h, hn⟩, rfl, fun _ h => h, fun _ _ => Iff.rfl, hs⟩
  cases b with
  | row e sz xs =>
    obtain ⟨hlt, h⟩ := setK_spec.1 h
    obtain ⟨tm', h, hl, hh⟩ := adoptsF_sub (sbF_sub i xs 3) tm _ h
    obtain ⟨top', h, hl2, hh2⟩ := sbB_sub _ _ h
    have hT : BlkSub i xs top top' := by
      refine ⟨by rw [hl2]; simp, fun j b' hb' => ?_⟩
      obtain ⟨b, h1, h2⟩ := hh2 j b' hb'
      by_cases e : i = j
      · subst e
        rw [List.getElem?_set_self hlt] at h1
        cases h1
        rcases h2 with rfl | ⟨cs, cs', h3, _⟩
        · exact .inl ⟨rfl, rfl⟩
        · cases h3
      · rw [List.getElem?_set_ne e] at h1
        exact .inr ⟨fun e' => e e'.symm, b, h1, h2⟩
    obtain ⟨m', h1, h2, h3, h4⟩ := hs.freeze h0 hn hb hl hh hT
    refine ⟨m', tm', top', ⟨h, ?_⟩, h1, h2, h3, h4⟩
    exact noGenB_of fun j Y st hj => noGenB_spec hn j Y st (hT.gen hj)
  | dead => exact same h
  | box cs => exact same h
  | gen Y st => exact same h
theorem frNames_spec {H : List (List Blk)} {m0 : M0} {a : Act} (h0 : ∀ k, ¬ Mine m0.toM m0.g k) : ∀ (is : List Nat) {m : M} {tm : List PV} {top : List Blk} (hs : Full H m0 m a tm top) (hn : noGenB top = true) {K : List PV → List Blk → Prop}, frNames is tm top K →
    Froze H m0 m a fun tm' top' => K tm' top' ∧ noGenB top' = true
  | [], m, tm, top, hs, hn, K, h => ⟨m, tm, top, ⟨h, hn⟩, rfl, fun _ h => h, fun _ _ => Iff.rfl, hs⟩
  | i :: is, m, tm, top, hs, hn, K, h => by
    rw [frNames_cons] at h
    obtain ⟨m1, tm1, top1, ⟨h, hn1⟩, e1, e2, e3, hs1⟩ := frName_spec hs h0 hn h
    obtain ⟨m2, tm2, top2, h, f1, f2, f3, hs2⟩ := frNames_spec h0 is hs1 hn1 h
    exact ⟨m2, tm2, top2, h, f1.trans e1, fun k hk => e2 k (f2 k hk), fun k hk => (f3 k hk).trans (e3 k hk), hs2⟩
theorem frOps_spec {H : List (List Blk)} {m0 : M0} {a : Act} (h0 : ∀ k, ¬ Mine m0.toM m0.g k) : ∀ (xs : List Operand) {m : M} {tm : List PV} {top : List Blk} (hs : Full H m0 m a tm top) (hn : noGenB top = true) {K : List PV → List Blk → Prop}, frOps xs tm top K →
    Froze H m0 m a fun tm' top' => K tm' top' ∧ noGenB top' = true
  | [], m, tm, top, hs, hn, K, h => ⟨m, tm, top, ⟨h, hn⟩, rfl, fun _ h => h, fun _ _ => Iff.rfl, hs⟩
  | x :: xs, m, tm, top, hs, hn, K, h => by
    rw [frOps_cons] at h
    cases x with
    | tmp t =>
      obtain ⟨p, _, h⟩ := getK_spec.1 h
      obtain ⟨m1, tm1, top1, ⟨h, hn1⟩, e1, e2, e3, hs1⟩ := frNames_spec h0 _ hs hn h
      obtain ⟨m2, tm2, top2, h, f1, f2, f3, hs2⟩ := frOps_spec h0 xs hs1 hn1 h
      exact ⟨m2, tm2, top2, h, f1.trans e1, fun k hk => e2 k (f2 k hk), fun k hk => (f3 k hk).trans (e3 k hk), hs2⟩
    | const v => exact frOps_spec h0 xs hs hn h
    | global g => exact frOps_spec h0 xs hs hn h
    | func f => exact frOps_spec h0 xs hs hn h
theorem frzK_spec {C : Cx} {op : Op} {H : List (List Blk)} {m0 : M0} {m : M} {a : Act} {tm : List PV} {top : List Blk} (hF : C.fcl = true → ∀ k, ¬ Mine m0.toM m0.g k) (hs : Full H m0 m a tm top) {K : List PV → List Blk → Prop} (h : frzK C op tm top K) : Froze H m0 m a K := by
  have same : K tm top → Froze H m0 m a K := fun h => ⟨m, tm, top, h, rfl, fun _ h => h, fun _ _ => Iff.rfl, hs⟩
  unfold frzK at h
  cases hc : C.fcl with
  | false => rw [hc] at h; exact same h
  | true =>
    rw [hc] at h
    have go : ∀ xs, ifK (noGenB top) (frOps xs tm top K) → Froze H m0 m a K := fun xs h => by
      simp only [ifK] at h
      split at h
      · rename_i hn
        obtain ⟨m', tm', top', ⟨h, _⟩, e1, e2, e3, hs'⟩ := frOps_spec (hF hc) xs hs hn h
        exact ⟨m', tm', top', h, e1, e2, e3, hs'⟩
      · exact h.elim
    dsimp only at h
    split at h
    · split at h
      · split at h
        · exact same h
        · exact go _ h
      · exact same h
    · split at h
      · exact same h
      · exact go _ h
    · obtain ⟨q, _, h⟩ := getK_spec.1 h
      split at h
      · exact go _ h
      · exact same h
    · exact same h

theorem frzK_pure {C : Cx} {op : Op} (hp : pureOp op = true) {tm : List PV} {top : List Blk} {K : List PV → List Blk → Prop} (h : frzK C op tm top K) : K tm top := by
  unfold frzK at h
  cases hc : C.fcl with
  | false => rw [hc] at h; exact h
  | true => rw [hc] at h; cases op <;> first | exact h | cases hp
/-- a region in the order of its text -/
theorem opsY_spec {C : Cx} (hC : C.Ok) {r : Option Nat} {H : List (List Blk)} {ops : List Oper} {m0 : M0} {K : List PV → List Blk → Prop} {Q : Exit → Act → World → Prop} (hQ : ∀ m a tm top, K tm top → Full H m0 m a tm top → Q .normal a m.w) (hW : ∀ o ∈ ops, ∀ d, o.dst = some d → m0.W d) (hF : C.fcl = true → ∀ k, ¬ Mine m0.toM m0.g k) :
    ∀ (l : List Oper) (is : List Nat) (ds : List Nat) (tm : List PV) (top : List Blk) (m : M) (a : Act), is.length = l.length → (∀ (k : Nat) i, is[k]? = some i → ops[i]? = l[k]?) → opsY C H ops l ds tm top K → Full H m0 m a tm top → Lits m0 m a ds →
      wpOpsIn (FW r) 0 C.P ops.toArray Q is a m.w
  | [], is, ds, tm, top, m, a, hl, _, hk, hs, hL => by
    obtain rfl : is = [] := List.eq_nil_of_length_eq_zero hl
    exact hQ m a tm top hk hs
  | o :: l, [], ds, tm, top, m, a, hl, _, hk, hs, hL => by cases hl
  | o :: l, i :: is, ds, tm, top, m, a, hl, hi, hk, hs, hL => by
    have h0 : ops[i]? = some o := hi 0 i rfl
    have ha : ops.toArray[i]? = some o := by simpa using h0
    have hd := hW o (List.mem_of_getElem? h0)
    have hi' : ∀ (k : Nat) i', is[k]? = some i' → ops[i']? = l[k]? := fun k i' h => hi (k + 1) i' (by simpa using h)
    unfold opsY at hk
    obtain ⟨tm1, hk, hs1, _⟩ := hs.want hk
    simp only [wpOpsIn, ha]
    split
    · rename_i hw
      rw [hw] at hk
      obtain ⟨m1, tm2, top2, hk, ew, hU, _, hs2⟩ := frzK_spec hF hs1 hk
      have hL2 : Lits m0 m1 a ds := fun d hd => by
        obtain ⟨k, n, c, h1, h2, h3, h4⟩ := hL d hd
        exact ⟨k, n, c, h1, h2, by rw [ew]; exact h3, fun h => h4 (hU k h)⟩
      rw [← ew]
      refine actL_wp hC hk hs2 hL2 fun pv top' v m' hk' hR hs' hL' => ?_
      obtain ⟨tm', hk2, hs2⟩ := hs'.put hd hR hk'
      exact opsY_spec hC hQ hW hF l is _ tm' top' m' _ (by simpa using hl) hi' hk2 hs2 (hL' (fun d hdst => put_lt hk' hdst hs'.1.size))
    · rename_i hw
      have hw : Region.wanted o (Go.yielded ops.toArray a.tmps) = false := by simpa using hw
      rw [hw] at hk
      obtain ⟨tm', hk', hs'⟩ := hs1.put (v := undef) hd (.tuple [] #[] rfl (fun j p v h => by simp at h)) hk
      exact ⟨fun _ _ => trivial, opsY_spec hC hQ hW hF l is _ tm' top m _ (by simpa using hl) hi' hk' hs' (hL.next (Nat.le_refl _) (fun _ _ => Iff.rfl) _ _)⟩

end Go.Proofs.Ve

/- What the value machine says of a region whose order is drawn is so. -/
set_option linter.all false
namespace Go.Proofs.Ve
open Go

def PureStep (P : Program) (o : Oper) (tm : List PV) (pv : PV) : Prop :=
  ∀ (m : M) (a : Act), EvR m a tm o.op.operands.toList → ∃ v, (∀ w, (execOp a.eval o).run P w = .ok (.value v) w) ∧ RP m pv v
theorem PureStep.step {C : Cx} {H : List (List Blk)} {o : Oper} {tm : List PV} {top : List Blk} {pv : PV} (h : PureStep C.P o tm pv) : OpStep C H o tm top pv top :=
  step_val fun m a _ he => let ⟨v, h1, h2⟩ := h m a he; ⟨v, h1 _, h2⟩

theorem pure_step {C : Cx} (hC : C.Ok) {H : List (List Blk)} {o : Oper} {tm : List PV} {top : List Blk} {K : PV → List Blk → Prop} (h : actK C H o.op tm top K) (hp : pureOp o.op = true) :
    ∃ pv, K pv top ∧ PureStep C.P o tm pv := by
  cases ho : o.op <;> rw [ho] at hp <;> simp [pureOp] at hp <;> rw [ho] at h
  · obtain ⟨p, hp, h⟩ := evK_ev h
    exact ⟨p, h, fun m a he => ⟨_, fun w => by simp [execOp, ho], ev_rel he (by simp [ho, Op.operands]) hp⟩⟩
  · obtain ⟨p, hp, h⟩ := evK_ev h
    exact ⟨p, h, fun m a he => ⟨_, fun w => by simp [execOp, ho], ev_rel he (by simp [ho, Op.operands]) hp⟩⟩
  · obtain ⟨p, hp, h⟩ := evK_ev h
    obtain ⟨q, hq, hh⟩ := fieldK_spec hC h
    refine ⟨q, hq, fun m a he => ?_⟩
    obtain ⟨u, hu, hr⟩ := hh m _ (ev_rel he (by simp [ho, Op.operands]) hp)
    exact ⟨u, fun w => ex_run (by simp [execOp, ho]) (hu w), hr⟩
  · rename_i x i
    obtain ⟨p, hp, h⟩ := evK_ev h
    split at h
    case h_2 => exact h.elim
    rename_i cs
    obtain ⟨q, hq, h⟩ := getK_spec.1 h
    refine ⟨q, h, fun m a he => ?_⟩
    have := ev_rel he (x := x) (by simp [ho, Op.operands]) hp
    generalize hv : a.eval x = v at this
    cases this with
    | tuple _ vs h1 h2 =>
      have hlt : i < vs.size := by rw [← h1]; exact (List.getElem?_eq_some_iff.1 hq).1
      have hvi : vs[i]? = some vs[i] := Array.getElem?_eq_getElem hlt
      exact ⟨vs[i], fun w => by simp [execOp, ho, hv, Instr.extract, hvi], h2 i q _ hq hvi⟩

/-- An append onto a row of no elements, without room, turns nothing. -/
theorem emp_step {C : Cx} (hC : C.Ok) {H : List (List Blk)} {o : Oper} {c : Call} (ho : o.op = .call c) (hcl : c.callee = .builtin .append) {tm : List PV} {top : List Blk} {K : PV → List Blk → Prop} (h : actK C H (.call c) tm top K)
    {t : Nat} {rest : List Operand} (hargs : c.args.toList = .tmp t :: rest) (ht : tm[t]? = some .emp) : ∃ pv top', K pv top' ∧ top.length ≤ top'.length ∧ GenLe top top' ∧ ActStep C H o tm top pv top' ∧ top <+: top' ∧ OpStep C H o tm top pv top' := by
  simp only [actK, hcl] at h
  split at h
  case h_2 => exact h.elim
  rename_i x y ty ty' hx hty
  simp only [ifK] at h
  split at h
  case h_2 => exact h.elim
  rename_i hb
  obtain rfl := Nat.eq_of_beq_eq_true hb
  obtain ⟨p, hp, h⟩ := evK_ev h
  obtain ⟨q, hq, h⟩ := evK_ev h
  have hpe : p = .emp := by
    rw [hargs] at hx
    obtain rfl := (List.cons.inj hx).1
    change tm[t]? = some p at hp
    rw [ht] at hp; exact (Option.some.inj hp).symm
  obtain ⟨pv, top', h1, h2, h3, h4, h5⟩ := append_step hC ho hcl (by rw [← Array.toArray_toList (xs := c.args), hx]) (by rw [← Array.toArray_toList (xs := c.argTypes), hty]) hp hq h
  exact ⟨pv, top', h1, h2, h3, h4, h5 hpe⟩
theorem actF_spec {C : Cx} {H : List (List Blk)} {es : List Nat} {op : Op} {tm : List PV} {top : List Blk} {K : PV → List Blk → Prop} (h : actF C H es op tm top K) :
    actK C H op tm top K ∧ (Op.turns C.give [] op = Op.turns C.give es op ∨ ∃ c t rest, op = .call c ∧ c.callee = .builtin .append ∧ c.args.toList = .tmp t :: rest ∧ tm[t]? = some .emp) := by
  cases es with
  | nil => exact ⟨h, .inl rfl⟩
  | cons e es =>
    cases op with
    | call c =>
      unfold actF at h
      dsimp only at h
      cases hcl : c.callee with
      | builtin b =>
        rw [hcl] at h
        cases b <;> try exact ⟨h, .inl (by simp only [Op.turns, hcl])⟩
        dsimp only at h
        cases hx : c.args.toList with
        | nil => rw [hx] at h; exact ⟨h, .inl (by simp only [Op.turns, hcl, hx])⟩
        | cons x rest =>
          rw [hx] at h
          cases x with
          | tmp t =>
            dsimp only at h
            cases ha : (e :: es).any (Nat.beq t) with
            | true =>
              rw [ha] at h
              obtain ⟨p, hp, h⟩ := getK_spec.1 h
              cases p with
              | emp => exact ⟨h, .inr ⟨c, t, rest, rfl, hcl, hx, hp⟩⟩
              | _ => exact h.elim
            | false => rw [ha] at h; exact ⟨h, .inl (by simp only [Op.turns, hcl, hx, ha]; rfl)⟩
          | const v => exact ⟨h, .inl (by simp only [Op.turns, hcl, hx])⟩
          | global g => exact ⟨h, .inl (by simp only [Op.turns, hcl, hx])⟩
          | func f => exact ⟨h, .inl (by simp only [Op.turns, hcl, hx])⟩
      | value f => rw [hcl] at h; exact ⟨h, .inl (by simp only [Op.turns, hcl]; cases f <;> rfl)⟩
      | invoke r n => rw [hcl] at h; exact ⟨h, .inl (by simp only [Op.turns, hcl])⟩
    | _ => exact ⟨h, .inl rfl⟩
theorem actK_full0 {C : Cx} (hC : C.Ok) {H : List (List Blk)} {o : Oper} {tm : List PV} {top : List Blk} {K : PV → List Blk → Prop} (h : actK C H o.op tm top K) :
    ∃ pv top', K pv top' ∧ top.length ≤ top'.length ∧ GenLe top top' ∧ ActStep C H o tm top pv top' ∧ (Op.turns C.give [] o.op = false → top <+: top' ∧ OpStep C H o tm top pv top') ∧ (pureOp o.op = true → top' = top ∧ PureStep C.P o tm pv) := by
  cases hp : pureOp o.op with
  | true =>
    obtain ⟨pv, h1, h2⟩ := pure_step hC h hp
    exact ⟨pv, top, h1, Nat.le_refl _, GenLe.refl _, h2.step.act, fun _ => ⟨List.prefix_refl _, h2.step⟩, fun _ => ⟨rfl, h2⟩⟩
  | false =>
    cases ht : Op.turns C.give [] o.op with
    | true =>
      obtain ⟨pv, top', h1, h2, hg, h3⟩ := actK_step hC h
      exact ⟨pv, top', h1, h2, hg, h3, fun h => (by cases h), fun h => (by cases h)⟩
    | false =>
      have h' : opK C H o.op tm top K := by
        cases ho : o.op with
        | store t a v => rw [ho] at ht; cases ht
        | call c =>
          rw [ho] at h ht
          unfold actK at h
          dsimp only at h
          unfold Op.turns at ht
          dsimp only at ht
          cases hcl : c.callee with
          | builtin b =>
            rw [hcl] at h ht
            cases b <;> try exact h
            exfalso
            dsimp only at ht
            split at ht <;> cases ht
          | invoke r n => rw [hcl] at h; exact h
          | value f =>
            rw [hcl] at h ht
            cases f with
            | func f =>
              dsimp only at h ht
              rw [ht] at h
              exact h
            | tmp t => exact h
            | const v => exact h
            | global g => exact h
        | _ => rw [ho] at h; exact h
      obtain ⟨pv, top', h1, h2, h3⟩ := opK_step hC h'
      exact ⟨pv, top', h1, h2.isPre.length_le, h2.genLe, h3.act, fun _ => ⟨h2.isPre, h3⟩, fun h => (by cases h)⟩
theorem actK_full {C : Cx} (hC : C.Ok) {H : List (List Blk)} {es : List Nat} {o : Oper} {tm : List PV} {top : List Blk} {K : PV → List Blk → Prop} (h : actF C H es o.op tm top K) :
    ∃ pv top', K pv top' ∧ top.length ≤ top'.length ∧ GenLe top top' ∧ ActStep C H o tm top pv top' ∧ (Op.turns C.give es o.op = false → top <+: top' ∧ OpStep C H o tm top pv top') ∧ (pureOp o.op = true → top' = top ∧ PureStep C.P o tm pv) := by
  obtain ⟨h, he | ⟨c, t, rest, ho, hcl, hx, ht⟩⟩ := actF_spec h
  · rw [← he]; exact actK_full0 hC h
  · obtain ⟨pv, top', h1, h2, h3, h4, h5⟩ := emp_step hC ho hcl (ho ▸ h) hx ht
    exact ⟨pv, top', h1, h2, h3, h4, fun _ => h5, fun hp => by rw [ho] at hp; cases hp⟩

/-! ### the walk in the text's order -/
def tmLe (x y : List PV) : Prop := x.length = y.length ∧ ∀ (t : Nat) p, x[t]? = some p → ∃ q, y[t]? = some q ∧ ∀ m v, RP m p v → RP m q v
theorem tmLe.refl (x : List PV) : tmLe x x := ⟨rfl, fun t p h => ⟨p, h, fun _ _ h => h⟩⟩
structure Seqn where
  w : Nat → Bool
  pv : Nat → PV
  tc : Nat → List PV
  tr : Nat → List PV
  tp : Nat → List Blk
structure StpOk (C : Cx) (H : List (List Blk)) (es : List Nat) (ops : List Oper) (o : Oper) (w : Bool) (pv : PV) (tc tr tc' : List PV) (tp tp' : List Blk) : Prop where
  le : tmLe tc tr
  want : (o.guard = none ∧ w = true) ∨ ∃ j b o' d p x, o.guard = some (j, b) ∧ ops[j]? = some o' ∧ o'.dst = some d ∧ (tc[d]? = some p ∧ bool? p = some x ∧ w = (x == b) ∨ tc[d]? = some (.tuple []) ∧ w = false)
  next : (o.dst = none ∧ tc' = tr) ∨ ∃ d, o.dst = some d ∧ d < tr.length ∧ tc' = tr.set d pv
  skip : w = false → pv = .tuple [] ∧ tp' = tp
  len : tp.length ≤ tp'.length
  gen : GenLe tp tp'
  act : w = true → ActStep C H o tr tp pv tp'
  op : w = true → Op.turns C.give es o.op = false → tp <+: tp' ∧ OpStep C H o tr tp pv tp'
  pure : w = true → pureOp o.op = true → tp' = tp ∧ PureStep C.P o tr pv

theorem wantK_sem {ops : List Oper} {o : Oper} {tm : List PV} {K : Bool → List PV → Prop} (hk : wantK ops o tm K) :
    ∃ w tm1, K w tm1 ∧ tmLe tm tm1 ∧ ((o.guard = none ∧ w = true) ∨ ∃ j b o' d p x, o.guard = some (j, b) ∧ ops[j]? = some o' ∧ o'.dst = some d ∧ (tm[d]? = some p ∧ bool? p = some x ∧ w = (x == b) ∨ tm[d]? = some (.tuple []) ∧ w = false)) := by
  unfold wantK at hk
  split at hk
  · rename_i hg
    exact ⟨true, tm, hk, .refl _, .inl ⟨hg, rfl⟩⟩
  · rename_i j b hg
    obtain ⟨o', ho', hk⟩ := getK_spec.1 hk
    split at hk
    · exact hk.elim
    · rename_i d hd
      obtain ⟨p, hp, hk⟩ := getK_spec.1 hk
      split at hk
      · rename_i x
        exact ⟨_, tm, hk, .refl _, .inr ⟨j, b, o', d, _, x, hg, ho', hd, .inl ⟨hp, rfl, rfl⟩⟩⟩
      · exact ⟨false, tm, hk, .refl _, .inr ⟨j, b, o', d, .any, false, hg, ho', hd, .inr ⟨hp, rfl⟩⟩⟩
      · rename_i x
        have same : tmLe tm (tm.set d (.kb x)) := by
          refine ⟨by simp, fun t q hq => ?_⟩
          by_cases ht : d = t
          · subst ht
            rw [hp] at hq; cases hq
            refine ⟨.kb x, by simp [(List.getElem?_eq_some_iff.1 hp).1], fun m v hv => ?_⟩
            cases hv with | d _ _ hx => cases hx; exact .kb _
          · exact ⟨q, by rw [List.getElem?_set_ne ht]; exact hq, fun _ _ h => h⟩
        by_cases hxb : x = b
        · subst hxb
          exact ⟨true, _, (setK_spec.1 (hk.1 rfl)).2, same, .inr ⟨j, x, o', d, _, x, hg, ho', hd, .inl ⟨hp, rfl, by cases x <;> rfl⟩⟩⟩
        · have hx : x = !b := by cases x <;> cases b <;> first | rfl | exact absurd rfl hxb
          subst hx
          exact ⟨false, _, (setK_spec.1 (hk.2 rfl)).2, same, .inr ⟨j, b, o', d, _, !b, hg, ho', hd, .inl ⟨hp, rfl, by cases b <;> rfl⟩⟩⟩
      · exact hk.elim

theorem putDst_sem {o : Oper} {tr : List PV} {pv : PV} {K : List PV → Prop} (h : putDst o tr pv K) : ∃ tc', K tc' ∧ ((o.dst = none ∧ tc' = tr) ∨ ∃ d, o.dst = some d ∧ d < tr.length ∧ tc' = tr.set d pv) := by
  unfold putDst at h
  split at h
  · rename_i hd; exact ⟨tr, h, .inl ⟨hd, rfl⟩⟩
  · rename_i d hd; obtain ⟨h1, h2⟩ := setK_spec.1 h; exact ⟨_, h2, .inr ⟨d, hd, h1, rfl⟩⟩

theorem canon {C : Cx} (hC : C.Ok) {H : List (List Blk)} {es : List Nat} {ops : List Oper} {K : List PV → List Blk → Prop} : ∀ (l : List Oper) (tm : List PV) (top : List Blk), opsK C H es ops l tm top K →
    ∃ S : Seqn, S.tc 0 = tm ∧ S.tp 0 = top ∧ K (S.tc l.length) (S.tp l.length) ∧ ∀ (k : Nat) o, l[k]? = some o → StpOk C H es ops o (S.w k) (S.pv k) (S.tc k) (S.tr k) (S.tc (k + 1)) (S.tp k) (S.tp (k + 1))
  | [], tm, top, h => ⟨⟨fun _ => true, fun _ => .any, fun _ => tm, fun _ => tm, fun _ => top⟩, rfl, rfl, h, fun k o hk => by simp at hk⟩
  | o :: l, tm, top, h => by
    unfold opsK at h
    obtain ⟨w, tr, h, hle, hw⟩ := wantK_sem h
    have fin : ∀ (pv : PV) (tc' : List PV) (top' : List Blk), StpOk C H es ops o w pv tm tr tc' top top' → opsK C H es ops l tc' top' K →
        ∃ S : Seqn, S.tc 0 = tm ∧ S.tp 0 = top ∧ K (S.tc (o :: l).length) (S.tp (o :: l).length) ∧ ∀ (k : Nat) o', (o :: l)[k]? = some o' → StpOk C H es ops o' (S.w k) (S.pv k) (S.tc k) (S.tr k) (S.tc (k + 1)) (S.tp k) (S.tp (k + 1)) := by
      intro pv tc' top' hs hk
      obtain ⟨S, h1, h2, h3, h4⟩ := canon hC l tc' top' hk
      refine ⟨⟨fun i => match i with | 0 => w | i + 1 => S.w i, fun i => match i with | 0 => pv | i + 1 => S.pv i, fun i => match i with | 0 => tm | i + 1 => S.tc i, fun i => match i with | 0 => tr | i + 1 => S.tr i, fun i => match i with | 0 => top | i + 1 => S.tp i⟩, rfl, rfl, h3, fun k o' hk => ?_⟩
      cases k with
      | zero =>
        simp at hk
        subst hk
        show StpOk C H es ops o w pv tm tr (S.tc 0) top (S.tp 0)
        rw [h1, h2]; exact hs
      | succ k => exact h4 k o' (by simpa using hk)
    cases w with
    | true =>
      obtain ⟨pv, top', h, hl, hG, hA, hO, hP⟩ := actK_full hC h
      obtain ⟨tc', h, hn⟩ := putDst_sem h
      exact fin pv tc' top' ⟨hle, hw, hn, fun h => (by cases h), hl, hG, fun _ => hA, fun _ => hO, fun _ => hP⟩ h
    | false =>
      obtain ⟨tc', h, hn⟩ := putDst_sem h
      exact fin (.tuple []) tc' top ⟨hle, hw, hn, fun _ => ⟨rfl, rfl⟩, Nat.le_refl _, GenLe.refl _, fun h => (by cases h), fun h => (by cases h), fun h => (by cases h)⟩ h
end Go.Proofs.Ve

/- Whatever order is drawn, the region comes to the same. -/
set_option linter.all false
namespace Go.Proofs.Ve
open Go

/-! ### what drawOk says -/
theorem testBit_anc {T : List Nat} : ∀ (l : List Edge) (s i : Nat), (l.foldl (fun s e => bif Region.binds .any e then Nat.lor (Nat.lor s (Nat.shiftLeft 1 e.on)) (T.getD e.on 0) else s) s).testBit i = true →
    s.testBit i = true ∨ ∃ e ∈ l, Region.binds .any e = true ∧ (e.on = i ∨ (T.getD e.on 0).testBit i = true)
  | [], s, i, h => .inl h
  | e :: l, s, i, h => by
    rw [List.foldl_cons] at h
    rcases testBit_anc l _ i h with h1 | ⟨e', he, h1⟩
    · cases hb : Region.binds .any e with
      | false => rw [hb] at h1; exact .inl h1
      | true =>
        rw [hb] at h1
        change ((s ||| (1 <<< e.on)) ||| T.getD e.on 0).testBit i = true at h1
        simp only [Nat.testBit_or, Bool.or_eq_true, Nat.testBit_shiftLeft] at h1
        rcases h1 with (h1 | h1) | h1
        · exact .inl h1
        · simp only [Bool.and_eq_true, decide_eq_true_eq] at h1
          obtain ⟨h2, h3⟩ := h1
          have : i - e.on = 0 := by
            rcases Nat.eq_zero_or_pos (i - e.on) with h | h
            · exact h
            · exfalso
              obtain ⟨k, hk⟩ : ∃ k, i - e.on = k + 1 := ⟨i - e.on - 1, by omega⟩
              rw [hk] at h3
              simp [Nat.testBit_succ] at h3
          exact .inr ⟨e, List.mem_cons_self, hb, .inl (by omega)⟩
        · exact .inr ⟨e, List.mem_cons_self, hb, .inr h1⟩
    · exact .inr ⟨e', List.mem_cons_of_mem _ he, h1⟩

structure Drawn (tn : Op → Bool) (ops : List Oper) (T : List Nat) : Prop where
  back : ∀ (j : Nat) o, ops[j]? = some o → ∀ e ∈ o.after, Region.binds .any e = true → e.on < j
  bit : ∀ (j : Nat) o, ops[j]? = some o → ∀ i, bitB T j i = true → ∃ e ∈ o.after, Region.binds .any e = true ∧ (e.on = i ∨ bitB T e.on i = true)
  pair : ∀ (i j : Nat) oi oj, i < j → ops[i]? = some oi → ops[j]? = some oj → bitB T j i = true ∨ (oi.apart ops.toArray oj = true ∧ (pureOp oi.op = true ∨ pureOp oj.op = true ∨ lateB tn ops j = false))
theorem drawOk_spec {tn : Op → Bool} {ops : List Oper} (h : drawOk tn ops.toArray = true) : ∃ T, Drawn tn ops T := by
  unfold drawOk at h
  generalize ancs ops.toArray.toList = T at h
  refine ⟨T, ?_⟩
  unfold drawAt at h
  rw [List.all_eq_true] at h
  have H : ∀ (j : Nat) o, ops[j]? = some o → _ := fun j o ho => by
    have := h j (List.mem_range.2 (by simpa using (List.getElem?_eq_some_iff.1 ho).1))
    simp only [List.getElem?_toArray, ho, Bool.and_eq_true] at this
    exact this
  refine ⟨fun j o ho e he hb => ?_, fun j o ho i hi => ?_, fun i j oi oj hij hi hj => ?_⟩
  · have := Array.all_eq_true_iff_forall_mem.1 (H j o ho).1.1 e he
    rw [hb] at this
    simpa [Nat.blt_eq] using this
  · have h1 := Nat.eq_of_beq_eq_true (H j o ho).1.2
    unfold bitB at hi
    rw [h1] at hi
    rcases testBit_anc _ _ _ hi with h2 | ⟨e, he, h2⟩
    · simp at h2
    · exact ⟨e, by simpa using he, h2⟩
  · have h1 := List.all_eq_true.1 (H j oj hj).2 i (List.mem_range.2 hij)
    simp only [hi, Bool.or_eq_true, Bool.and_eq_true, Bool.not_eq_true'] at h1
    rcases h1 with h1 | ⟨h1, h2⟩
    · exact .inl h1
    · exact .inr ⟨h1, by rcases h2 with (h2 | h2) | h2 <;> simp [h2]⟩

/-! ### the done ones -/
def Dn (L : Array Bool) (i : Nat) : Prop := L.getD i false = true
theorem dn_set {L : Array Bool} {i : Nat} (hi : i < L.size) (j : Nat) : Dn (L.setIfInBounds i true) j ↔ j = i ∨ Dn L j := by
  unfold Dn
  by_cases h : i = j
  · subst h; simp [hi]
  · rw [getD_set_ne false h]
    constructor
    · exact .inr
    · rintro (rfl | h2)
      · exact absurd rfl h
      · exact h2
def Closed (ops : List Oper) (L : Array Bool) : Prop := ∀ (j : Nat) o, ops[j]? = some o → Dn L j → ∀ e ∈ o.after, Region.binds .any e = true → Dn L e.on
/-- ready: what it waits for is done -/
def Rdy (ops : List Oper) (L : Array Bool) (j : Nat) : Prop := ∃ o, ops[j]? = some o ∧ ∀ e ∈ o.after, Region.binds .any e = true → Dn L e.on
theorem bit_done {tn : Op → Bool} {ops : List Oper} {T : List Nat} (hD : Drawn tn ops T) {L : Array Bool} (hC : Closed ops L) : ∀ (n j : Nat), j < n → Rdy ops L j → ∀ i, bitB T j i = true → Dn L i := by
  intro n
  induction n with
  | zero => intro j hj; omega
  | succ n ih =>
    intro j hj ⟨o, ho, hr⟩ i hi
    obtain ⟨e, he, hb, h⟩ := hD.bit j o ho i hi
    have hd := hr e he hb
    rcases h with h | h
    · rw [← h]; exact hd
    · have hlt := hD.back j o ho e he hb
      have hlen : e.on < ops.length := by have := (List.getElem?_eq_some_iff.1 ho).1; omega
      exact ih e.on (by omega) ⟨_, List.getElem?_eq_getElem hlen, hC e.on _ (List.getElem?_eq_getElem hlen) hd⟩ i h
theorem done_bit {tn : Op → Bool} {ops : List Oper} {T : List Nat} (hD : Drawn tn ops T) {L : Array Bool} (hC : Closed ops L) {j : Nat} {o : Oper} (ho : ops[j]? = some o) (hd : Dn L j) {i : Nat} (hi : bitB T j i = true) : Dn L i :=
  bit_done hD hC (j + 1) j (Nat.lt_succ_self j) ⟨o, ho, hC j o ho hd⟩ i hi

theorem tm_mono {C : Cx} {H : List (List Blk)} {es : List Nat} {ops : List Oper} {S : Seqn} (hS : ∀ (k : Nat) o, ops[k]? = some o → StpOk C H es ops o (S.w k) (S.pv k) (S.tc k) (S.tr k) (S.tc (k + 1)) (S.tp k) (S.tp (k + 1))) {t : Nat} :
    ∀ (n i : Nat), i + n ≤ ops.length → (∀ (j : Nat) o, i ≤ j → j < i + n → ops[j]? = some o → o.dst ≠ some t) → ∀ p, (S.tc i)[t]? = some p → ∃ q, (S.tc (i + n))[t]? = some q ∧ ∀ m v, RP m p v → RP m q v := by
  intro n
  induction n with
  | zero => intro i _ _ p hp; exact ⟨p, hp, fun _ _ h => h⟩
  | succ n ih =>
    intro i hl hno p hp
    have hi : i < ops.length := by omega
    have ho : ops[i]? = some ops[i] := List.getElem?_eq_getElem hi
    have s := hS i _ ho
    obtain ⟨q, hq, h1⟩ := s.le.2 t p hp
    have hq' : (S.tc (i + 1))[t]? = some q := by
      rcases s.next with ⟨_, h⟩ | ⟨d, hd, _, h⟩
      · rw [h]; exact hq
      · rw [h, List.getElem?_set_ne]
        · exact hq
        · rintro rfl
          exact hno i _ (Nat.le_refl _) (by omega) ho hd
    obtain ⟨r, hr, h2⟩ := ih (i + 1) (by omega) (fun j o h3 h4 => hno j o (by omega) (by omega)) q hq'
    exact ⟨r, by rw [show i + (n + 1) = i + 1 + n by omega]; exact hr, fun m v h => h2 m v (h1 m v h)⟩
theorem tc_len {C : Cx} {H : List (List Blk)} {es : List Nat} {ops : List Oper} {S : Seqn} (hS : ∀ (k : Nat) o, ops[k]? = some o → StpOk C H es ops o (S.w k) (S.pv k) (S.tc k) (S.tr k) (S.tc (k + 1)) (S.tp k) (S.tp (k + 1))) : ∀ (i : Nat), i ≤ ops.length → (S.tc i).length = (S.tc 0).length := by
  intro i
  induction i with
  | zero => intro _; rfl
  | succ i ih =>
    intro hi
    have s := hS i _ (List.getElem?_eq_getElem (by omega : i < ops.length))
    rw [← ih (by omega), s.le.1]
    rcases s.next with ⟨_, h⟩ | ⟨d, _, _, h⟩ <;> rw [h] <;> simp

/-- what stays the same in top -/
theorem tp_same {C : Cx} {H : List (List Blk)} {es : List Nat} {ops : List Oper} {S : Seqn} (hS : ∀ (k : Nat) o, ops[k]? = some o → StpOk C H es ops o (S.w k) (S.pv k) (S.tc k) (S.tr k) (S.tc (k + 1)) (S.tp k) (S.tp (k + 1))) :
    ∀ (n i : Nat), i + n ≤ ops.length → (∀ (j : Nat) o, i ≤ j → j < i + n → ops[j]? = some o → pureOp o.op = true) → S.tp (i + n) = S.tp i := by
  intro n
  induction n with
  | zero => intro i _ _; rfl
  | succ n ih =>
    intro i hl hp
    have ho : ops[i]? = some ops[i] := List.getElem?_eq_getElem (by omega)
    have s := hS i _ ho
    rw [show i + (n + 1) = i + 1 + n by omega, ih (i + 1) (by omega) (fun j o h1 h2 => hp j o (by omega) (by omega))]
    cases hw : S.w i with
    | true => exact (s.pure hw (hp i _ (Nat.le_refl _) (by omega) ho)).1
    | false => exact (s.skip hw).2
theorem tp_prefix {C : Cx} {H : List (List Blk)} {es : List Nat} {ops : List Oper} {S : Seqn} (hS : ∀ (k : Nat) o, ops[k]? = some o → StpOk C H es ops o (S.w k) (S.pv k) (S.tc k) (S.tr k) (S.tc (k + 1)) (S.tp k) (S.tp (k + 1))) :
    ∀ (n i : Nat), i + n ≤ ops.length → (∀ (j : Nat) o, i ≤ j → j < i + n → ops[j]? = some o → Op.turns C.give es o.op = false) → S.tp i <+: S.tp (i + n) := by
  intro n
  induction n with
  | zero => intro i _ _; exact List.prefix_refl _
  | succ n ih =>
    intro i hl hp
    have ho : ops[i]? = some ops[i] := List.getElem?_eq_getElem (by omega)
    have s := hS i _ ho
    rw [show i + (n + 1) = i + 1 + n by omega]
    refine List.IsPrefix.trans ?_ (ih (i + 1) (by omega) (fun j o h1 h2 => hp j o (by omega) (by omega)))
    cases hw : S.w i with
    | true => exact (s.op hw (hp i _ (Nat.le_refl _) (by omega) ho)).1
    | false => rw [(s.skip hw).2]; exact List.prefix_refl _

theorem pre_get {α : Type} {t t' : List α} (h : t <+: t') {i : Nat} {b : α} (hb : t[i]? = some b) : t'[i]? = some b := by
  obtain ⟨s, rfl⟩ := h
  rw [List.getElem?_append_left (List.getElem?_eq_some_iff.1 hb).1]
  exact hb
theorem getB_prefix {t t' : List Blk} (h : t <+: t') {H : List (List Blk)} {l i : Nat} {b : Blk} (hb : getB t H l i = some b) : getB t' H l i = some b := by
  cases l with
  | zero => exact pre_get h hb
  | succ l => exact hb
theorem inv_prefix {m : M} {t t' : List Blk} (h : t <+: t') {H : List (List Blk)} (hi : Inv m t' H) : Inv m t H :=
  ⟨fun l i b hb => hi.blk l i b (getB_prefix h hb), fun l i b l' i' b' v v' k h1 h2 h3 h4 => hi.inj l i b l' i' b' v v' k (getB_prefix h h1) h2 (getB_prefix h h3) h4,
   fun l i b v k h1 h2 => hi.own l i b v k (getB_prefix h h1) h2, hi.lt⟩
/-- One made its blocks out of turn. -/
theorem inv_join {m m' : M} {t0 t1 t : List Blk} (h01 : t0 <+: t1) (h1 : t1 <+: t) {H : List (List Blk)} (hi : Inv m t H) (hg : Grow m m') (hρ : ∀ l j, ¬ (l = 0 ∧ t0.length ≤ j ∧ j < t1.length) → m'.ρ l j = m.ρ l j)
    (hfr : ∀ j u k, t0.length ≤ j → j < t1.length → m'.ρ 0 j = some u → blkOf u = some k → m.w.heap.size ≤ k) (hi' : Inv m' t1 H) : Inv m' t H := by
  have get : ∀ l i b, getB t H l i = some b → (l = 0 ∧ t0.length ≤ i ∧ i < t1.length ∧ getB t1 H l i = some b) ∨ (¬ (l = 0 ∧ t0.length ≤ i ∧ i < t1.length)) := by
    intro l i b hb
    by_cases h : l = 0 ∧ t0.length ≤ i ∧ i < t1.length
    · obtain ⟨rfl, h2, h3⟩ := h
      refine .inl ⟨rfl, h2, h3, ?_⟩
      have := pre_get h1 (List.getElem?_eq_getElem h3)
      simp only [getB] at hb ⊢
      rw [this] at hb
      rw [List.getElem?_eq_getElem h3]; exact hb
    · exact .inr h
  have old : ∀ l i b v k, getB t H l i = some b → b.live = true → ¬ (l = 0 ∧ t0.length ≤ i ∧ i < t1.length) → m'.ρ l i = some v → blkOf v = some k → m.ρ l i = some v ∧ k < m.w.heap.size ∧ m.U k := by
    intro l i b v k hb hl hn hv hk
    rw [hρ l i hn] at hv
    have := hi.own l i b v k hb hl hv hk
    exact ⟨hv, hi.lt k this, this⟩
  refine ⟨fun l i b hb => ?_, fun l i b l' i' b' v v' k hb hl hb' hl' hv hv' hk hk' => ?_, fun l i b v k hb hl hv hk => ?_, hi'.lt⟩
  · rcases get l i b hb with ⟨_, _, _, h⟩ | h
    · exact hi'.blk l i b h
    · exact (hi.blk l i b hb).keep hg.keep (hρ l i h) (fun v k hl hv hk => hg.heap k (hi.lt k (hi.own l i b v k hb hl hv hk)))
  · rcases get l i b hb with ⟨rfl, a1, a2, a3⟩ | h <;> rcases get l' i' b' hb' with ⟨rfl, b1, b2, b3⟩ | h'
    · exact hi'.inj 0 i b 0 i' b' v v' k a3 hl b3 hl' hv hv' hk hk'
    · exfalso
      have := hfr i v k a1 a2 hv hk
      have := (old l' i' b' v' k hb' hl' h' hv' hk').2.1
      omega
    · exfalso
      have := hfr i' v' k b1 b2 hv' hk'
      have := (old l i b v k hb hl h hv hk).2.1
      omega
    · exact hi.inj l i b l' i' b' v v' k hb hl hb' hl' (old l i b v k hb hl h hv hk).1 (old l' i' b' v' k hb' hl' h' hv' hk').1 hk hk'
  · rcases get l i b hb with ⟨_, _, _, h⟩ | h
    · exact hi'.own l i b v k h hl hv hk
    · obtain ⟨h2, h3, h4⟩ := old l i b v k hb hl h hv hk
      exact (hg.U k h3).2 h4

/-- t, at its stage i -/
def Stage (ops : List Oper) (L : Array Bool) (t i : Nat) : Prop := ∀ (j : Nat) o, ops[j]? = some o → o.dst = some t → (j < i ↔ Dn L j)
structure Some1 (C : Cx) (H : List (List Blk)) (es : List Nat) (ops : List Oper) (S : Seqn) (m0 : M0) (m : M) (a : Act) (L : Array Bool) : Prop where
  len : L.size = ops.length
  closed : Closed ops L
  size : a.tmps.size = (S.tc 0).length
  vals : ∀ (t i : Nat) p v, i ≤ ops.length → Stage ops L t i → (S.tc i)[t]? = some p → a.tmps[t]? = some v → RP m p v
  prot : ∀ j, ¬ m0.W j → a.tmps[j]? = m0.A j
  tsz : a.tmps.size = m0.tsz
  phase : ∃ c, c ≤ ops.length ∧ Since m0 m (S.tp c) ∧ (∃ V, Calm H m0 m a.defers (S.tp c) V) ∧ Inv m (S.tp c) H ∧ (∀ j, (S.tp c).length ≤ j → m.ρ 0 j = none) ∧ (∀ (i : Nat) o, ops[i]? = some o → c ≤ i → lateB (Op.turns C.give es) ops i = true) ∧
    (∀ (i : Nat) o, ops[i]? = some o → pureOp o.op = false → c ≤ i → ¬ Dn L i) ∧
    (∀ (i : Nat) o, ops[i]? = some o → pureOp o.op = false → i < c → ¬ Dn L i → lateB (Op.turns C.give es) ops (c - 1) = false ∧ ∀ j, (S.tp i).length ≤ j → j < (S.tp (i + 1)).length → m.ρ 0 j = none)

theorem late_no {tn : Op → Bool} {ops : List Oper} {c : Nat} (h : lateB tn ops (c - 1) = false) {j : Nat} {o : Oper} (hj : j < c) (ho : ops[j]? = some o) : tn o.op = false := by
  unfold lateB at h
  rw [List.any_eq_false] at h
  have : o ∈ ops.take (c - 1 + 1) := List.mem_of_getElem? (i := j) (by rw [List.getElem?_take_of_lt (by omega)]; exact ho)
  simpa using h o this

section
variable {C : Cx} {H : List (List Blk)} {es : List Nat} {ops : List Oper} {S : Seqn} {T : List Nat} {m0 : M0} {m : M} {a : Act} {L : Array Bool}
/-- what a ready operation looks at is as it was in the text's order -/
theorem stage_of (hD : Drawn (Op.turns C.give es) ops T) (hL : Some1 C H es ops S m0 m a L) {i : Nat} {o : Oper} (ho : ops[i]? = some o) (hr : Rdy ops L i) (hn : ¬ Dn L i) {t : Nat} (ht : t ∈ o.looksAt ops.toArray) : Stage ops L t i := by
  intro j oj hj hd
  rcases Nat.lt_trichotomy j i with h | h | h
  · refine ⟨fun _ => ?_, fun _ => h⟩
    rcases hD.pair j i oj o h hj ho with hb | ⟨hap, _⟩
    · exact bit_done hD hL.closed (i + 1) i (Nat.lt_succ_self i) hr j hb
    · exact absurd ht ((Oper.apart_spec hap).1 t hd)
  · subst h
    exact ⟨fun h => absurd h (Nat.lt_irrefl _), fun h => absurd h hn⟩
  · refine ⟨fun h' => by omega, fun hdn => ?_⟩
    rcases hD.pair i j o oj h ho hj with hb | ⟨hap, _⟩
    · exact absurd (done_bit hD hL.closed hj hdn hb) hn
    · exact absurd ht ((Oper.apart_spec hap).2.2 t hd)

theorem closed_set (hL : L.size = ops.length) (hc : Closed ops L) {i : Nat} (hr : Rdy ops L i) : Closed ops (L.setIfInBounds i true) := by
  obtain ⟨o, ho, hr⟩ := hr
  have hi : i < L.size := by rw [hL]; exact (List.getElem?_eq_some_iff.1 ho).1
  intro j oj hj hd e he hb
  rw [dn_set hi] at hd ⊢
  rcases hd with rfl | hd
  · rw [ho] at hj; cases hj
    exact .inr (hr e he hb)
  · exact .inr (hc j oj hj hd e he hb)

/-- the temporaries after an operation out of turn -/
theorem vals_set (hS : ∀ (k : Nat) o, ops[k]? = some o → StpOk C H es ops o (S.w k) (S.pv k) (S.tc k) (S.tr k) (S.tc (k + 1)) (S.tp k) (S.tp (k + 1))) (hD : Drawn (Op.turns C.give es) ops T) (hL : Some1 C H es ops S m0 m a L) {i : Nat} {o : Oper} (ho : ops[i]? = some o)
    (hn : ¬ Dn L i) {m' : M} (hK : Keep m m') {v : Value} (hv : RP m' (S.pv i) v) :
    ∀ (t k : Nat) p u, k ≤ ops.length → Stage ops (L.setIfInBounds i true) t k → (S.tc k)[t]? = some p → (a.put o.dst v).tmps[t]? = some u → RP m' p u := by
  intro t k p u hk hst hp hu
  have hi : i < L.size := by rw [hL.len]; exact (List.getElem?_eq_some_iff.1 ho).1
  have hil : i < ops.length := (List.getElem?_eq_some_iff.1 ho).1
  by_cases hd : o.dst = some t
  · have hik : i < k := (hst i o ho hd).2 ((dn_set hi i).2 (.inl rfl))
    have hlt : t < (S.tc k).length := (List.getElem?_eq_some_iff.1 hp).1
    have hut : u = v := by
      rw [hd] at hu
      simp only [Act.put] at hu
      have : t < a.tmps.size := by have := (Array.getElem?_eq_some_iff.1 hu).1; simpa using this
      simp [this] at hu
      exact hu.symm
    subst hut
    have h1 : (S.tc (i + 1))[t]? = some (S.pv i) := by
      rcases (hS i o ho).next with ⟨h, _⟩ | ⟨d, h, hlt', h2⟩
      · rw [h] at hd; cases hd
      · rw [hd] at h; cases h
        rw [h2]; simp [hlt']
    obtain ⟨q, hq, h2⟩ := tm_mono hS (t := t) (k - (i + 1)) (i + 1) (by omega) (fun j oj h3 h4 hj hjd => by
      have h5 : Dn L j := by
        rcases (dn_set hi j).1 ((hst j oj hj hjd).1 (by omega)) with h | h
        · omega
        · exact h
      rcases hD.pair i j o oj (by omega) ho hj with hb | ⟨hap, _⟩
      · exact hn (done_bit hD hL.closed hj h5 hb)
      · exact (Oper.apart_spec hap).2.1 t hd hjd) _ h1
    rw [show i + 1 + (k - (i + 1)) = k by omega] at hq
    rw [hp] at hq; cases hq
    exact h2 m' u hv
  · have hu' : a.tmps[t]? = some u := by
      unfold Act.put at hu
      split at hu
      · rename_i d hd'
        rw [hd'] at hd
        have hne : d ≠ t := fun e => hd (by rw [e])
        rw [Array.getElem?_setIfInBounds_ne hne] at hu
        exact hu
      · exact hu
    refine (hL.vals t k p u hk (fun j oj hj hjd => ?_) hp hu').keep hK
    rw [hst j oj hj hjd, dn_set hi]
    constructor
    · rintro (rfl | h)
      · rw [ho] at hj; cases hj; exact absurd hjd hd
      · exact h
    · exact .inr
end
end Go.Proofs.Ve

/- A region whose order is drawn: whole. -/
set_option linter.all false
namespace Go.Proofs.Ve
open Go

theorem rp_bool {m : M} {p : PV} {v : Value} {b : Bool} (h : RP m p v) (hb : bool? p = some b) : v = .bool b := by
  cases p with
  | kb x => simp [bool?] at hb; subst hb; cases h; rfl
  | d x =>
    cases x with
    | bool x => simp [bool?] at hb; subst hb; cases h with | d _ _ hx => cases hx; rfl
    | int k n => simp [bool?] at hb
    | str s => simp [bool?] at hb
    | sl xs => simp [bool?] at hb
  | _ => simp [bool?] at hb

theorem St.draw {H : List (List Blk)} {m0 : M0} {m : M} {a : Act} {tm : List PV} {top : List Blk} (h : St H m0 m a tm top) (n : Nat) : St H m0 ⟨{ m.w with drawn := n }, m.ρ, m.U⟩ a tm top := by
  have hK : Keep m ⟨{ m.w with drawn := n }, m.ρ, m.U⟩ := ⟨fun _ _ _ h => h, Nat.le_refl _, fun k hk => ⟨hk.2, rfl⟩⟩
  refine ⟨⟨fun l i b hb => (h.inv.blk l i b hb).keep hK rfl (fun _ _ _ _ _ => rfl), h.inv.inj, h.inv.own, h.inv.lt⟩, h.size, fun j p v hp hv => (h.rel j p v hp hv).keep hK, h.defers, h.free, ?_, h.tsz, h.prot⟩
  exact ⟨h.since.os, h.since.tape, h.since.output, h.since.size, h.since.heap, h.since.up, h.since.U, h.since.fresh⟩
theorem Full.draw {H : List (List Blk)} {m0 : M0} {m : M} {a : Act} {tm : List PV} {top : List Blk} (h : Full H m0 m a tm top) (n : Nat) : Full H m0 ⟨{ m.w with drawn := n }, m.ρ, m.U⟩ a tm top := by
  obtain ⟨hs, V, hc⟩ := h
  have hs' := hs.draw n
  exact ⟨hs', V, hc.step hs.inv hs'.inv (GenLe.refl _) rfl rfl rfl (Nat.le_refl _) (fun _ _ _ => rfl) (fun _ _ => Iff.rfl) (fun k hk => .inr hk)⟩

section
variable {C : Cx} {H : List (List Blk)} {es : List Nat} {ops : List Oper} {S : Seqn} {T : List Nat} {m0 : M0} {m : M} {a : Act} {L : Array Bool}
theorem some1_evR (hS : ∀ (k : Nat) o, ops[k]? = some o → StpOk C H es ops o (S.w k) (S.pv k) (S.tc k) (S.tr k) (S.tc (k + 1)) (S.tp k) (S.tp (k + 1))) (hD : Drawn (Op.turns C.give es) ops T) (hL : Some1 C H es ops S m0 m a L) {i : Nat} {o : Oper} (ho : ops[i]? = some o) (hr : Rdy ops L i) (hn : ¬ Dn L i) :
    EvR m a (S.tr i) o.op.operands.toList := by
  intro t p ht hp
  have hil : i < ops.length := (List.getElem?_eq_some_iff.1 ho).1
  have s := hS i o ho
  have hlt : t < (S.tc i).length := by rw [s.le.1]; exact (List.getElem?_eq_some_iff.1 hp).1
  have hta : t < a.tmps.size := by rw [hL.size, ← tc_len hS i (by omega)]; exact hlt
  obtain ⟨q, hq, h1⟩ := s.le.2 t _ (List.getElem?_eq_getElem hlt)
  rw [hp] at hq; cases hq
  have hst := stage_of hD hL ho hr hn (t := t) (by
    unfold Oper.looksAt
    exact List.mem_append_left _ (List.mem_filterMap.2 ⟨_, ht, rfl⟩))
  have := h1 m _ (hL.vals t i _ _ (by omega) hst (List.getElem?_eq_getElem hlt) (Array.getElem?_eq_getElem hta))
  simpa [Act.eval, Array.getD, hta] using this
theorem some1_want (hS : ∀ (k : Nat) o, ops[k]? = some o → StpOk C H es ops o (S.w k) (S.pv k) (S.tc k) (S.tr k) (S.tc (k + 1)) (S.tp k) (S.tp (k + 1))) (hD : Drawn (Op.turns C.give es) ops T) (hL : Some1 C H es ops S m0 m a L) {i : Nat} {o : Oper} (ho : ops[i]? = some o) (hr : Rdy ops L i) (hn : ¬ Dn L i) :
    Region.wanted o (yielded ops.toArray a.tmps) = S.w i := by
  have hil : i < ops.length := (List.getElem?_eq_some_iff.1 ho).1
  rcases (hS i o ho).want with ⟨hg, hw⟩ | ⟨j, b, o', d, p, x, hg, hj, hd, ⟨hp, hb, hw⟩ | ⟨hp, hw⟩⟩
  · rw [hw]; simp [Region.wanted, hg]
  · have hlt : d < (S.tc i).length := (List.getElem?_eq_some_iff.1 hp).1
    have hta : d < a.tmps.size := by rw [hL.size, ← tc_len hS i (by omega)]; exact hlt
    have hst := stage_of hD hL ho hr hn (t := d) (by
      unfold Oper.looksAt
      refine List.mem_append_right _ ?_
      simp [hg, hj, hd])
    have hv := Array.getElem?_eq_getElem hta
    have := rp_bool (hL.vals d i _ _ (by omega) hst hp hv) hb
    rw [this] at hv
    have hy : yielded ops.toArray a.tmps j = some x := by simp [Go.yielded, hj, hd, hv]
    simp only [Region.wanted, hg, hy]
    rw [hw]
    cases x <;> cases b <;> rfl
  · have hlt : d < (S.tc i).length := (List.getElem?_eq_some_iff.1 hp).1
    have hta : d < a.tmps.size := by rw [hL.size, ← tc_len hS i (by omega)]; exact hlt
    have hst := stage_of hD hL ho hr hn (t := d) (by
      unfold Oper.looksAt
      refine List.mem_append_right _ ?_
      simp [hg, hj, hd])
    have hv := Array.getElem?_eq_getElem hta
    have hrp := hL.vals d i _ _ (by omega) hst hp hv
    generalize a.tmps[d] = v at hv hrp
    cases hrp with
    | tuple _ vs e1 e2 =>
      have hy : yielded ops.toArray a.tmps j = none := by simp [Go.yielded, hj, hd, hv]
      simp only [Region.wanted, hg, hy, hw]
      rfl

theorem any_spec (hS : ∀ (k : Nat) o, ops[k]? = some o → StpOk C H es ops o (S.w k) (S.pv k) (S.tc k) (S.tr k) (S.tc (k + 1)) (S.tp k) (S.tp (k + 1))) (hD : Drawn (Op.turns C.give es) ops T) {Q : Exit → Act → World → Prop} (hW : ∀ o ∈ ops, ∀ d, o.dst = some d → m0.W d) (hQ : ∀ m a, Full H m0 m a (S.tc ops.length) (S.tp ops.length) → Q .normal a m.w) :
    ∀ (fuel : Nat) (L : Array Bool) (m : M) (a : Act), Some1 C H es ops S m0 m a L → L.toList.count false = fuel → wpAny C.P .any ops.toArray Q fuel L a m.w := by
  -- all done
  have done : ∀ (L : Array Bool) (m : M) (a : Act), Some1 C H es ops S m0 m a L → (∀ i, i < ops.length → Dn L i) → Q .normal a m.w := by
    intro L m a hL hall
    obtain ⟨c, hc, hsn, ⟨V0, h0⟩, h1, h2, h3, h4, h5⟩ := hL.phase
    have htp : S.tp ops.length = S.tp c := by
      have := tp_same hS (ops.length - c) c (by omega) (fun j o h6 h7 ho => by
        cases hp : pureOp o.op with
        | true => rfl
        | false => exact absurd (hall j (List.getElem?_eq_some_iff.1 ho).1) (h4 j o ho hp h6))
      rwa [show c + (ops.length - c) = ops.length by omega] at this
    refine hQ m a ⟨⟨by rw [htp]; exact h1, by rw [hL.size, tc_len hS _ (Nat.le_refl _)], fun t p v hp hv => hL.vals t _ p v (Nat.le_refl _) (fun j o hj _ => ?_) hp hv, rfl, fun j hj => h2 j (by rwa [htp] at hj), by rw [htp]; exact ⟨hsn.os, hsn.tape, hsn.output, hsn.size, hsn.heap, hsn.up, hsn.U, hsn.fresh⟩, hL.tsz, hL.prot⟩, V0, by rw [htp]; exact h0⟩
    have := (List.getElem?_eq_some_iff.1 hj).1
    exact ⟨fun _ => hall j this, fun _ => this⟩
  have ready : ∀ (L : Array Bool) (i : Nat), L.size = ops.length → (i ∈ Region.ready .any ops.toArray L ↔ i < ops.length ∧ ¬ Dn L i ∧ Rdy ops L i) := by
    intro L i hl
    rw [mem_ready]
    constructor
    · rintro ⟨h1, o, ho, h2⟩
      have ho' : ops[i]? = some o := by simpa using ho
      refine ⟨(List.getElem?_eq_some_iff.1 ho').1, fun h => ?_, o, ho', h2⟩
      have hi : i < L.size := by rw [hl]; exact (List.getElem?_eq_some_iff.1 ho').1
      unfold Dn at h
      simp [hi] at h1 h
      rw [h1] at h; cases h
    · rintro ⟨hi, h1, o, ho, h2⟩
      refine ⟨?_, o, by simpa using ho, h2⟩
      unfold Dn at h1
      have hi : i < L.size := by rw [hl]; exact hi
      simp [hi] at h1 ⊢
      exact h1
  -- one more done
  have next : ∀ (L : Array Bool) (m : M) (a : Act) (i : Nat) (o : Oper), Some1 C H es ops S m0 m a L → ops[i]? = some o → Rdy ops L i → ¬ Dn L i → ∀ (m' : M) (v : Value), Keep m m' → RP m' (S.pv i) v →
      (∃ c, c ≤ ops.length ∧ Since m0 m' (S.tp c) ∧ (∃ V, Calm H m0 m' a.defers (S.tp c) V) ∧ Inv m' (S.tp c) H ∧ (∀ j, (S.tp c).length ≤ j → m'.ρ 0 j = none) ∧ (∀ (i : Nat) o, ops[i]? = some o → c ≤ i → lateB (Op.turns C.give es) ops i = true) ∧
        (∀ (k : Nat) o, ops[k]? = some o → pureOp o.op = false → c ≤ k → ¬ Dn (L.setIfInBounds i true) k) ∧
        (∀ (k : Nat) o, ops[k]? = some o → pureOp o.op = false → k < c → ¬ Dn (L.setIfInBounds i true) k → lateB (Op.turns C.give es) ops (c - 1) = false ∧ ∀ j, (S.tp k).length ≤ j → j < (S.tp (k + 1)).length → m'.ρ 0 j = none)) →
      Some1 C H es ops S m0 m' (a.put o.dst v) (L.setIfInBounds i true) := by
    intro L m a i o hL ho hr hn m' v hK hv hph
    refine ⟨by simp [hL.len], closed_set hL.len hL.closed hr, ?_, vals_set hS hD hL ho hn hK hv, fun j hj => ?_, ?_, by rw [put_defers]; exact hph⟩
    · rw [← hL.size]; unfold Act.put; split <;> simp
    · rw [← hL.prot j hj]
      unfold Act.put
      split
      · rename_i d hd
        dsimp only
        rw [Array.getElem?_setIfInBounds_ne (fun e => hj (by rw [← e]; exact hW o (List.mem_of_getElem? ho) d hd))]
      · rfl
    · rw [← hL.tsz]; unfold Act.put; split <;> simp
  intro fuel
  induction fuel with
  | zero =>
    intro L m a hL hcount
    have hall : ∀ i, i < ops.length → Dn L i := by
      intro i hi
      rw [List.count_eq_zero] at hcount
      have hi : i < L.size := by rw [hL.len]; exact hi
      unfold Dn
      cases hv : L[i] with
      | true => simp [hi, hv]
      | false => exact absurd (List.mem_of_getElem? (i := i) (by simp [hi, hv])) hcount
    refine ⟨List.eq_nil_iff_forall_not_mem.2 fun i hi => ?_, done L m a hL hall⟩
    obtain ⟨h1, h2, _⟩ := (ready L i hL.len).1 hi
    exact h2 (hall i h1)
  | succ fuel ih =>
    intro L m a hL hcount
    refine ⟨fun hnil => done L m a hL ?_, fun i hi => ?_⟩
    · have : ∀ n i, i < n → i < ops.length → Dn L i := by
        intro n
        induction n with
        | zero => intro i h; omega
        | succ n ihn =>
          intro i hin hi
          by_cases hd : Dn L i
          · exact hd
          · exfalso
            have hmem := (ready L i hL.len).2 ⟨hi, hd, _, List.getElem?_eq_getElem hi, fun e he hb => ihn e.on (by have := hD.back i _ (List.getElem?_eq_getElem hi) e he hb; omega) (by have := hD.back i _ (List.getElem?_eq_getElem hi) e he hb; omega)⟩
            rw [hnil] at hmem; cases hmem
      exact fun i hi => this (i + 1) i (Nat.lt_succ_self i) hi
    · obtain ⟨hil, hn, hr⟩ := (ready L i hL.len).1 hi
      obtain ⟨o, ho⟩ : ∃ o, ops[i]? = some o := ⟨_, List.getElem?_eq_getElem hil⟩
      have hiL : i < L.size := by rw [hL.len]; exact hil
      have hcount' : (L.setIfInBounds i true).toList.count false = fuel := by
        rw [Array.toList_setIfInBounds, List.count_set (by simpa using hiL)]
        have hf : L.toList[i]'(by simpa using hiL) = false := by
          unfold Dn at hn
          simpa [hiL] using hn
        rw [hf, hcount]; simp
      have s := hS i o ho
      have hev := some1_evR hS hD hL ho hr hn
      have hwant := some1_want hS hD hL ho hr hn
      have hdn : ∀ k, Dn (L.setIfInBounds i true) k ↔ k = i ∨ Dn L k := dn_set hiL
      obtain ⟨c, hc, hsn, ⟨V0, h0⟩, h1, h2, h3, h4, h5⟩ := hL.phase
      -- out of the tail's order
      have tail : pureOp o.op = false → c ≤ i → (∀ (j : Nat) oj, j < i → ops[j]? = some oj → pureOp oj.op = false → Dn L j) ∧ S.tp i = S.tp c := by
        intro hp hci
        have key : ∀ (j : Nat) oj, j < i → ops[j]? = some oj → pureOp oj.op = false → Dn L j := by
          intro j oj hj hoj hpj
          rcases hD.pair j i oj o hj hoj ho with hb | ⟨_, h | h | h⟩
          · exact bit_done hD hL.closed (i + 1) i (Nat.lt_succ_self i) hr j hb
          · rw [hpj] at h; cases h
          · rw [hp] at h; cases h
          · rw [h3 i o ho hci] at h; cases h
        refine ⟨key, ?_⟩
        have := tp_same hS (i - c) c (by omega) (fun j oj h6 h7 hoj => by
          cases hpj : pureOp oj.op with
          | true => rfl
          | false => exact absurd (key j oj (by omega) hoj hpj) (h4 j oj hoj hpj h6))
        rwa [show c + (i - c) = i by omega] at this
      -- the phase, where nothing is made
      have quiet : S.tp (i + 1) = S.tp i → ∃ c, c ≤ ops.length ∧ Since m0 m (S.tp c) ∧ (∃ V, Calm H m0 m a.defers (S.tp c) V) ∧ Inv m (S.tp c) H ∧ (∀ j, (S.tp c).length ≤ j → m.ρ 0 j = none) ∧ (∀ (i : Nat) o, ops[i]? = some o → c ≤ i → lateB (Op.turns C.give es) ops i = true) ∧
        (∀ (k : Nat) o, ops[k]? = some o → pureOp o.op = false → c ≤ k → ¬ Dn (L.setIfInBounds i true) k) ∧
        (∀ (k : Nat) o, ops[k]? = some o → pureOp o.op = false → k < c → ¬ Dn (L.setIfInBounds i true) k → lateB (Op.turns C.give es) ops (c - 1) = false ∧ ∀ j, (S.tp k).length ≤ j → j < (S.tp (k + 1)).length → m.ρ 0 j = none) := by
        intro htp
        by_cases hcase : pureOp o.op = false ∧ c ≤ i
        · obtain ⟨hp, hci⟩ := hcase
          obtain ⟨t1, t2⟩ := tail hp hci
          refine ⟨i + 1, by omega, by rw [htp, t2]; exact hsn, ⟨V0, by rw [htp, t2]; exact h0⟩, by rw [htp, t2]; exact h1, fun j hj => h2 j (by rw [← t2, ← htp]; exact hj), fun k ok hk h => h3 k ok hk (by omega), fun k ok hk hpk h hd => ?_, fun k ok hk hpk h hd => ?_⟩
          · rcases (hdn k).1 hd with rfl | hd
            · omega
            · exact h4 k ok hk hpk (by omega) hd
          · exfalso
            rcases Nat.lt_or_ge k i with h6 | h6
            · exact hd ((hdn k).2 (.inr (t1 k ok h6 hk hpk)))
            · exact hd ((hdn k).2 (.inl (by omega)))
        · refine ⟨c, hc, hsn, ⟨V0, h0⟩, h1, h2, h3, fun k ok hk hpk h hd => ?_, fun k ok hk hpk h hd => h5 k ok hk hpk h (fun hd' => hd ((hdn k).2 (.inr hd')))⟩
          rcases (hdn k).1 hd with rfl | hd
          · rw [ho] at hk; cases hk; exact hcase ⟨hpk, h⟩
          · exact h4 k ok hk hpk h hd
      unfold wpOp
      simp only [List.getElem?_toArray, ho]
      rw [hwant]
      cases hw : S.w i with
      | false =>
        simp only [Bool.false_eq_true, if_false]
        obtain ⟨hpv, htp⟩ := s.skip hw
        exact ih _ m _ (next L m a i o hL ho hr hn m undef (.refl m) (by rw [hpv]; exact .tuple [] #[] rfl (fun j p v h => by simp at h)) (quiet htp)) hcount'
      | true =>
        simp only [if_true]
        refine .inl ?_
        cases hp : pureOp o.op with
        | true =>
          obtain ⟨htp, hps⟩ := s.pure hw hp
          obtain ⟨v, hrun, hv⟩ := hps m a hev
          unfold Oper.wp
          rw [hrun]
          exact ih _ m _ (next L m a i o hL ho hr hn m v (.refl m) hv (quiet htp)) hcount'
        | false =>
          rcases Nat.lt_or_ge i c with hic | hci
          · -- made out of turn
            obtain ⟨hlate, hfree⟩ := h5 i o ho hp hic hn
            obtain ⟨hpre, hstep⟩ := s.op hw (late_no hlate hic ho)
            have p1 : S.tp (i + 1) <+: S.tp c := by
              have := tp_prefix hS (c - (i + 1)) (i + 1) (by omega) (fun j oj h6 h7 hj => late_no hlate (by omega) hj)
              rwa [show i + 1 + (c - (i + 1)) = c by omega] at this
            refine hstep m a (inv_prefix (hpre.trans p1) h1) hev hfree _ Q fun v m' hg hρ hfr hi' hv => ?_
            have hmn : ∀ k, Mine m' (S.tp c) k → m.w.heap.size ≤ k ∨ Mine m (S.tp c) k := by
              rintro k ⟨j, b, u, q1, q2, q3, q4⟩
              by_cases hj : (S.tp i).length ≤ j ∧ j < (S.tp (i + 1)).length
              · exact .inl (hfr j u k hj.1 hj.2 q3 q4)
              · rw [hρ 0 j (by omega)] at q3; exact .inr ⟨j, b, u, q1, q2, q3, q4⟩
            have hsince : Since m0 m' (S.tp c) := hsn.step hg.os hg.tape hg.output hg.size (fun k hk _ => hg.heap k hk) (fun l j => hρ (l + 1) j (by omega)) hg.U hmn
            have hij := inv_join hpre p1 h1 hg hρ hfr hi'
            refine ih _ m' _ (next L m a i o hL ho hr hn m' v hg.keep hv ⟨c, hc, hsince, ⟨V0, h0.step h1 hij (GenLe.refl _) hg.os hg.tape hg.output hg.size (fun k hk _ => hg.heap k hk) hg.U hmn⟩, hij, fun j hj => ?_, h3, fun k ok hk hpk h hd => ?_, fun k ok hk hpk h hd => ?_⟩) hcount'
            · have := p1.length_le
              rw [hρ 0 j (by omega)]; exact h2 j hj
            · rcases (hdn k).1 hd with rfl | hd
              · omega
              · exact h4 k ok hk hpk h hd
            · obtain ⟨q1, q2⟩ := h5 k ok hk hpk h (fun hd' => hd ((hdn k).2 (.inr hd')))
              refine ⟨q1, fun j hj1 hj2 => ?_⟩
              rw [hρ 0 j ?_]
              · exact q2 j hj1 hj2
              · rintro ⟨_, a1, a2⟩
                have hki : k ≠ i := fun e => hd ((hdn k).2 (.inl e))
                have mono : ∀ x y, x ≤ y → y ≤ c → (S.tp x).length ≤ (S.tp y).length := fun x y hxy hyc => by
                  have := (tp_prefix hS (y - x) x (by omega) (fun j oj h6 h7 hj => late_no hlate (by omega) hj)).length_le
                  rwa [show x + (y - x) = y by omega] at this
                rcases Nat.lt_or_ge k i with h6 | h6
                · have := mono (k + 1) i (by omega) (by omega); omega
                · have := mono (i + 1) k (by omega) (by omega); omega
          · -- in the tail
            obtain ⟨t1, t2⟩ := tail hp hci
            refine s.act hw m a (by rw [t2]; exact h1) hev (fun j hj => h2 j (by rwa [t2] at hj)) _ Q fun v m' hT hρ hfr hI hv => ?_
            have hinv : Inv m (S.tp i) H := by rw [t2]; exact h1
            have hs1 : Since m0 m' (S.tp (i + 1)) := Since.turn (top := S.tp i) (by rw [t2]; exact hsn) s.gen hT hρ hfr
            have hf1 : ∀ j, (S.tp (i + 1)).length ≤ j → m'.ρ 0 j = none := fun j hj => by
              have := s.len
              rw [hρ 0 j (by omega)]; exact h2 j (by rw [← t2]; omega)
            have hcalm : Calm H m0 m a.defers (S.tp i) V0 := by rw [t2]; exact h0
            refine ih _ m' _ (next L m a i o hL ho hr hn m' v (hT.keep hinv) hv ⟨i + 1, by omega, hs1, ⟨V0, hcalm.step hinv hI s.gen hT.os hT.tape hT.output hT.size hT.heap hT.U fun k => mine_turn s.gen hρ hfr⟩, hI, hf1, fun k ok hk h => h3 k ok hk (by omega), fun k ok hk hpk h hd => ?_, fun k ok hk hpk h hd => ?_⟩) hcount'
            · rcases (hdn k).1 hd with rfl | hd
              · omega
              · exact h4 k ok hk hpk (by omega) hd
            · exfalso
              rcases Nat.lt_or_ge k i with h6 | h6
              · exact hd ((hdn k).2 (.inr (t1 k ok h6 hk hpk)))
              · exact hd ((hdn k).2 (.inl (by omega)))
end

theorem late_first (tn : Op → Bool) (ops : List Oper) : ∃ c, c ≤ ops.length ∧ (∀ (i : Nat) o, ops[i]? = some o → c ≤ i → lateB tn ops i = true) ∧ (0 < c → lateB tn ops (c - 1) = false) := by
  have mono : ∀ i j, i ≤ j → lateB tn ops i = true → lateB tn ops j = true := by
    intro i j hij h
    unfold lateB at h ⊢
    rw [List.any_eq_true] at h ⊢
    obtain ⟨x, hx, h⟩ := h
    refine ⟨x, ?_, h⟩
    have : ops.take (i + 1) <+: ops.take (j + 1) := List.take_prefix_take_left (by omega)
    exact this.subset hx
  have : ∀ n, n ≤ ops.length → ∃ c, c ≤ n ∧ (∀ (i : Nat), i < n → c ≤ i → lateB tn ops i = true) ∧ (0 < c → lateB tn ops (c - 1) = false) := by
    intro n
    induction n with
    | zero => intro _; exact ⟨0, Nat.le_refl _, fun i hi => by omega, fun h => by omega⟩
    | succ n ih =>
      intro hn
      obtain ⟨c, h1, h2, h3⟩ := ih (by omega)
      cases hl : lateB tn ops n with
      | true =>
        refine ⟨c, by omega, fun i hi hc => ?_, h3⟩
        rcases Nat.lt_or_ge i n with h | h
        · exact h2 i h hc
        · exact mono n i h hl
      | false => exact ⟨n + 1, Nat.le_refl _, fun i hi hc => by omega, fun _ => hl⟩
  obtain ⟨c, h1, h2, h3⟩ := this ops.length (Nat.le_refl _)
  exact ⟨c, h1, fun i o ho hc => h2 i (List.getElem?_eq_some_iff.1 ho).1 hc, h3⟩

theorem inv_extend {m : M} {t t' : List Blk} (h : t <+: t') {H : List (List Blk)} (hi : Inv m t H) (hf : ∀ j, t.length ≤ j → m.ρ 0 j = none) : Inv m t' H := by
  have get : ∀ l i b v, getB t' H l i = some b → m.ρ l i = some v → getB t H l i = some b := by
    intro l i b v hb hv
    cases l with
    | succ l => exact hb
    | zero =>
      rcases Nat.lt_or_ge i t.length with h1 | h1
      · have := pre_get h (List.getElem?_eq_getElem h1)
        simp only [getB] at hb ⊢
        rw [this] at hb
        rw [List.getElem?_eq_getElem h1]; exact hb
      · rw [hf i h1] at hv; cases hv
  refine ⟨fun l i b hb => ?_, fun l i b l' i' b' v v' k h1 h2 h3 h4 h5 h6 => hi.inj l i b l' i' b' v v' k (get l i b v h1 h5) h2 (get l' i' b' v' h3 h6) h4 h5 h6, fun l i b v k h1 h2 h3 => hi.own l i b v k (get l i b v h1 h3) h2 h3, hi.lt⟩
  cases hv : m.ρ l i with
  | some v => exact hi.blk l i b (get l i b v hb hv)
  | none => cases b <;> first | trivial | (intro v h; rw [hv] at h; cases h)

theorem any_in {r : Option Nat} {P : Program} {md : Region.Mode} {ops : List Oper} (hnd : noDefer ops = true) {Q : Exit → Act → World → Prop} (hQ : ∀ a w, ¬ Q .outgrown a w) :
    ∀ (fuel : Nat) (L : Array Bool) (a : Act) (w : World), wpAny P md ops.toArray Q fuel L a w → wpAnyIn (FW r) 0 P md ops.toArray Q fuel L a w := by
  have one : ∀ (i : Nat) (K : Act → World → Prop) (a : Act) (w : World), wpOp P ops.toArray Q i K a w → wpOpIn (FW r) 0 P ops.toArray Q i K a w := by
    intro i K a w h
    unfold wpOp at h
    unfold wpOpIn
    cases ho : ops.toArray[i]? with
    | none => rw [ho] at h; exact h
    | some o =>
      rw [ho] at h
      dsimp only at h ⊢
      split
      · rename_i hw
        rw [if_pos hw] at h
        rcases h with h | ⟨_, a', w', h⟩
        · refine oper_in ?_ h
          unfold noDefer at hnd
          rw [List.all_eq_true] at hnd
          simpa using hnd o (List.mem_of_getElem? (by simpa using ho))
        · exact (hQ a' w' h).elim
      · rename_i hw
        rw [if_neg hw] at h
        exact ⟨fun _ _ => trivial, h⟩
  intro fuel
  induction fuel with
  | zero => intro L a w h; exact h
  | succ fuel ih => intro L a w h; exact ⟨h.1, fun i hi => wpOpIn_mono (fun a w hk => ih _ a w hk) (one i _ a w (h.2 i hi))⟩

theorem draw_spec {C : Cx} (hC : C.Ok) {r : Option Nat} {H : List (List Blk)} {es : List Nat} {ops : List Oper} {id : Nat} (hnd : noDefer ops = true) (hd : drawOk (Op.turns C.give es) ops.toArray = true) {m0 : M0} (hW : ∀ o ∈ ops, ∀ d, o.dst = some d → m0.W d) {m : M} {a : Act} {tm : List PV} {top : List Blk} {K : List PV → List Blk → Prop} {Q : Exit → Act → World → Prop}
    (hQ : ∀ m a tm top, K tm top → Full H m0 m a tm top → Q .normal a m.w) (hk : opsK C H es ops ops tm top K) (hs : Full H m0 m a tm top) : (Code.region id ops.toArray true).wpIn (FW r) 0 C.P Q a m.w := by
  obtain ⟨T, hD⟩ := drawOk_spec hd
  obtain ⟨S, e1, e2, hK, hS⟩ := canon hC ops tm top hk
  subst e1; subst e2
  have hs := hs.draw (m.w.drawn + 1)
  obtain ⟨hs, V0, hcalm⟩ := hs
  have hnone : ∀ i, ¬ Dn (Array.replicate ops.length false) i := fun i h => by
    unfold Dn at h
    rcases Nat.lt_or_ge i ops.length with h' | h' <;> simp [h'] at h
  refine wpIn_mono (Q := fun e a w => e = .normal ∧ Q .normal a w) (wpIn_region_any hC.mix (any_in hnd (fun a w h => by cases h.1) _ _ _ _ ?_)) (fun e a w ⟨h1, h2⟩ => h1 ▸ h2)
  have hsz : ops.toArray.size = ops.length := by simp
  rw [hsz]
  obtain ⟨c, hc, hc1, hc2⟩ := late_first (Op.turns C.give es) ops
  have hp0 : S.tp 0 <+: S.tp c := by
    have := tp_prefix hS c 0 (by omega) (fun j o h1 h2 ho => late_no (hc2 (by omega)) (by omega) ho)
    rwa [Nat.zero_add] at this
  have hgen : ∀ n, n ≤ ops.length → GenLe (S.tp 0) (S.tp n) := by
    intro n
    induction n with
    | zero => intro _; exact GenLe.refl _
    | succ n ih => intro hn; exact (ih (by omega)).trans (hS n _ (List.getElem?_eq_getElem (by omega))).gen
  have hinv := inv_extend hp0 hs.inv hs.free
  have hmn : ∀ k, Mine ⟨{ m.w with drawn := m.w.drawn + 1 }, m.ρ, m.U⟩ (S.tp c) k → m.w.heap.size ≤ k ∨ Mine ⟨{ m.w with drawn := m.w.drawn + 1 }, m.ρ, m.U⟩ (S.tp 0) k := by
    rintro k ⟨j, b, u, q1, q2, q3, q4⟩
    rcases Nat.lt_or_ge j (S.tp 0).length with hj | hj
    · have := pre_get hp0 (List.getElem?_eq_getElem hj)
      rw [q1] at this; cases this
      exact .inr ⟨j, _, u, List.getElem?_eq_getElem hj, q2, q3, q4⟩
    · have := hs.free j hj
      rw [this] at q3; cases q3
  refine any_spec hS hD hW (fun m a h => ⟨rfl, hQ m a _ _ hK h⟩) _ _ ⟨{ m.w with drawn := m.w.drawn + 1 }, m.ρ, m.U⟩ a ⟨by simp, fun j o ho h => absurd h (hnone j), hs.size, fun t i p v hi hst hp hv => ?_, hs.prot, hs.tsz, c, hc, ?_, ⟨V0, hcalm.step hs.inv hinv (hgen c hc) rfl rfl rfl (Nat.le_refl _) (fun _ _ _ => rfl) (fun _ _ => Iff.rfl) ?_⟩, hinv, ?_, hc1, fun i o ho hp hci => hnone i, fun i o ho hp hci hn => ⟨hc2 (by omega), fun j hj1 hj2 => ?_⟩⟩ (by simp)
  · have hlt : t < (S.tc 0).length := by rw [← tc_len hS i hi]; exact (List.getElem?_eq_some_iff.1 hp).1
    obtain ⟨q, hq, h1⟩ := tm_mono hS (t := t) i 0 (by omega) (fun j o h1 h2 ho hdt => hnone j ((hst j o ho hdt).1 (by omega))) _ (List.getElem?_eq_getElem hlt)
    rw [Nat.zero_add, hp] at hq; cases hq
    exact h1 _ _ (hs.rel t _ v (List.getElem?_eq_getElem hlt) hv)
  · have := hs.since
    exact ⟨this.os, this.tape, this.output, this.size, this.heap, this.up, this.U, fun k hk => (hmn k hk).elim (fun h => .inl (Nat.le_trans this.size h)) (this.fresh k)⟩
  · exact hmn
  · exact fun j hj => hs.free j (Nat.le_trans hp0.length_le hj)
  · have hp : S.tp 0 <+: S.tp i := by
      have := tp_prefix hS i 0 (by omega) (fun j o h1 h2 ho => late_no (hc2 (by omega)) (by omega) ho)
      rwa [Nat.zero_add] at this
    exact hs.free j (Nat.le_trans hp.length_le hj1)
end Go.Proofs.Ve

/- Code, loops, a function's body: what the value machine says of them is so. -/
set_option linter.all false
namespace Go.Proofs.Ve
open Go

/-- other names: s says whose each one is; from nt on: a row that is nil -/
def M.ren (m : M) (s : List Nat) (nt : Nat) : M := ⟨m.w, fun l i => match l with | 0 => (s[i]?).bind fun j => if j < nt then m.ρ 0 j else some (.slice none 0 0) | l + 1 => m.ρ (l + 1) i, m.U⟩
theorem ren_up (m : M) (s : List Nat) (nt l : Nat) : (m.ren s nt).up (l + 1) = m.up (l + 1) := rfl
theorem ren_ok (m : M) (s : List Nat) (nt : Nat) : (m.ren s nt).ok = m.ok := rfl

theorem rens_get (s : List Nat) : ∀ (cs : List PV) (j : Nat), (rens s cs)[j]? = (cs[j]?).map (ren s)
  | [], j => by simp [rens]
  | c :: cs, 0 => by simp [rens]
  | c :: cs, j + 1 => by simp [rens, rens_get s cs j]
theorem rens_len (s : List Nat) : ∀ (cs : List PV), (rens s cs).length = cs.length
  | [] => rfl
  | c :: cs => by simp [rens, rens_len s cs]
theorem insN_get {n : Nat} : ∀ {cs : List PV} {j : Nat} {q : PV}, insN n cs = true → cs[j]? = some q → inN n q = true
  | [], j, q, _, h => by simp at h
  | c :: cs, 0, q, h, hq => by
    simp only [insN, Bool.and_eq_true] at h
    simp at hq; subst hq; exact h.1
  | c :: cs, j + 1, q, h, hq => by
    simp only [insN, Bool.and_eq_true] at h
    exact insN_get h.2 (by simpa using hq)
theorem ren_ρ {m : M} {s : List Nat} {nt i : Nat} {v : Value} (hf : ∀ j, nt ≤ j → m.ρ 0 j = none) (hi : i < s.length) (h : m.ρ 0 (s.getD i 0) = some v) : (m.ren s nt).ρ 0 i = some v := by
  have e : s.getD i 0 = s[i] := by simp [List.getD, List.getElem?_eq_getElem hi]
  rw [e] at h
  have hlt : s[i] < nt := by
    rcases Nat.lt_or_ge s[i] nt with h1 | h1
    · exact h1
    · rw [hf _ h1] at h; cases h
  simp only [M.ren, List.getElem?_eq_getElem hi, Option.bind_some]
  rw [if_pos hlt]; exact h

inductive RenI (s : List Nat) : PV → PV → Prop
  | any : RenI s .any .any
  | kb (b : Bool) : RenI s (.kb b) (.kb b)
  | ub : RenI s .ub .ub
  | d (x : DV) : RenI s (.d x) (.d x)
  | nils : RenI s .nils .nils
  | emp : RenI s .emp .emp
  | row0 (i n : Nat) : RenI s (.row 0 i n) (.row 0 (s.getD i 0) n)
  | rowS (l i n : Nat) : RenI s (.row (l + 1) i n) (.row (l + 1) i n)
  | ptr0 (i o : Nat) : RenI s (.ptr 0 i o) (.ptr 0 (s.getD i 0) o)
  | ptrS (l i o : Nat) : RenI s (.ptr (l + 1) i o) (.ptr (l + 1) i o)
  | rptr0 (i sz e j : Nat) : RenI s (.rptr 0 i sz e j) (.rptr 0 (s.getD i 0) sz e j)
  | rptrS (l i sz e j : Nat) : RenI s (.rptr (l + 1) i sz e j) (.rptr (l + 1) i sz e j)
  | iptr (cs : List DV) : RenI s (.iptr cs) (.iptr cs)
  | func (fn : Fn) (fs cs : List PV) : RenI s (.func fn fs cs) (.func fn (rens s fs) (rens s cs))
  | agg (cs : List PV) : RenI s (.agg cs) (.agg (rens s cs))
  | tuple (cs : List PV) : RenI s (.tuple cs) (.tuple (rens s cs))
  | yld (Y : Yield) : RenI s (.yld Y) (.yld Y)
theorem ren_i (s : List Nat) (q : PV) : RenI s q (ren s q) := by
  cases q with
  | any => exact .any
  | kb b => exact .kb b
  | ub => exact .ub
  | d x => exact .d x
  | nils => exact .nils
  | emp => exact .emp
  | row l i n => cases l with | zero => exact .row0 i n | succ l => exact .rowS l i n
  | ptr l i o => cases l with | zero => exact .ptr0 i o | succ l => exact .ptrS l i o
  | rptr l i sz e j => cases l with | zero => exact .rptr0 i sz e j | succ l => exact .rptrS l i sz e j
  | iptr cs => exact .iptr cs
  | func fn fs cs => exact .func fn fs cs
  | agg cs => exact .agg cs
  | tuple cs => exact .tuple cs
  | yld Y => exact .yld Y
theorem ren_rp {m : M} {s : List Nat} {nt : Nat} {p : PV} {v : Value} (hf : ∀ j, nt ≤ j → m.ρ 0 j = none) (h : RP m p v) : ∀ q, p = ren s q → inN s.length q = true → RP (m.ren s nt) q v := by
  induction h with
  | any v => intro q hq hn; have := ren_i s q; rw [← hq] at this; cases this; exact .any _
  | kb b => intro q hq hn; have := ren_i s q; rw [← hq] at this; cases this; exact .kb _
  | ub b => intro q hq hn; have := ren_i s q; rw [← hq] at this; cases this; exact .ub _
  | d x v hx => intro q hq hn; have := ren_i s q; rw [← hq] at this; cases this; exact .d _ _ hx
  | nils => intro q hq hn; have := ren_i s q; rw [← hq] at this; cases this; exact .nils
  | emp ad => intro q hq hn; have := ren_i s q; rw [← hq] at this; cases this; exact .emp _
  | row l i n N c A hρ hn hc =>
    intro q hq hin
    have := ren_i s q
    rw [← hq] at this
    cases this with
    | row0 i' => exact .row _ _ _ _ _ _ (ren_ρ hf (by simpa only [inN, Nat.blt_eq] using hin) hρ) hn hc
    | rowS l => exact .row _ _ _ _ _ _ hρ hn hc
  | ptr l i o g hρ =>
    intro q hq hin
    have := ren_i s q
    rw [← hq] at this
    cases this with
    | ptr0 i' => exact .ptr _ _ _ _ (ren_ρ hf (by simpa only [inN, Nat.blt_eq] using hin) hρ)
    | ptrS l => exact .ptr _ _ _ _ hρ
  | rptr l i sz e j g N c hρ =>
    intro q hq hin
    have := ren_i s q
    rw [← hq] at this
    cases this with
    | rptr0 i' => exact .rptr _ _ _ _ _ _ _ _ (ren_ρ hf (by simpa only [inN, Nat.blt_eq] using hin) hρ)
    | rptrS l => exact .rptr _ _ _ _ _ _ _ _ hρ
  | iptr cs ad u hc hr => intro q hq hn; have := ren_i s q; rw [← hq] at this; cases this; exact .iptr _ ad u hc hr
  | func fn fs cs fv cv h1 h2 h3 h4 ih1 ih2 =>
    intro q hq hin
    have := ren_i s q
    rw [← hq] at this
    cases this with
    | func fn fs' cs' =>
      simp only [inN, Bool.and_eq_true] at hin
      exact .func _ _ _ _ _ (by rw [← h1, rens_len]) (by rw [← h2, rens_len]) (fun j p v hp hv => ih1 j (ren s p) v (by rw [rens_get, hp]; rfl) hv p rfl (insN_get hin.1 hp)) (fun j p v hp hv => ih2 j (ren s p) v (by rw [rens_get, hp]; rfl) hv p rfl (insN_get hin.2 hp))
  | agg cs vs h1 h2 ih =>
    intro q hq hin
    have := ren_i s q
    rw [← hq] at this
    cases this with
    | agg cs' => exact .agg _ _ (by rw [← h1, rens_len]) (fun j p v hp hv => ih j (ren s p) v (by rw [rens_get, hp]; rfl) hv p rfl (insN_get (by simpa only [inN] using hin) hp))
  | tuple cs vs h1 h2 ih =>
    intro q hq hin
    have := ren_i s q
    rw [← hq] at this
    cases this with
    | tuple cs' => exact .tuple _ _ (by rw [← h1, rens_len]) (fun j p v hp hv => ih j (ren s p) v (by rw [rens_get, hp]; rfl) hv p rfl (insN_get (by simpa only [inN] using hin) hp))
  | yld Y v hy => intro q hq hn; have := ren_i s q; rw [← hq] at this; cases this; exact .yld _ _ hy

theorem rp_refO {m : M} {s : List Nat} {nt : Nat} {p q : PV} {v : Value} (hf : ∀ j, nt ≤ j → m.ρ 0 j = none) (hr : refO s s.length nt p q) (h : RP m p v) : RP (m.ren s nt) q v := by
  unfold refO at hr
  split at hr
  · exact .any _
  · split at hr
    · cases h; exact .ub _
    · cases h; exact .ub _
    · cases h with | d _ _ hx => cases hx; exact .ub _
    · exact hr.elim
  · subst hr; cases h; exact .kb _
  · subst hr; cases h; exact .nils
  · split at hr
    · subst hr; cases h with | d _ _ hx => exact .d _ _ hx
    · subst hr; cases h; exact .d _ _ (.bool _)
    · subst hr; cases h; exact .d _ _ (.sl 0 [] none 0 0 ⟨0, 0, none⟩ (fun _ => undef) rfl (Nat.le_refl _) (by omega) (by omega) (by simp) (by simp) (by simp))
    · subst hr
      cases h with
      | emp ad => exact .d _ _ (.sl 0 [] (some ad) 0 0 ⟨0, 0, none⟩ (fun _ => undef) rfl (Nat.le_refl _) (by omega) (by omega) (by simp) (by simp) (by simp))
    · exact hr.elim
  · rename_i l i k
    split at hr
    · split at hr
      · simp only [Bool.and_eq_true] at hr
        obtain ⟨h1, h2, h3⟩ := hr
        obtain rfl := Nat.eq_of_beq_eq_true h1
        have h2 : i < s.length := by simpa [Nat.blt_eq] using h2
        have h3 : nt ≤ s.getD i 0 := Nat.le_of_ble_eq_true h3
        cases h
        refine .row 0 i 0 0 0 none ?_ (Nat.le_refl _) (Nat.le_refl _)
        simp only [M.ren, List.getElem?_eq_getElem h2, Option.bind_some]
        rw [if_neg]
        simp only [List.getD, List.getElem?_eq_getElem h2, Option.getD_some] at h3
        omega
      · exact hr.elim
    · exact ren_rp hf h _ hr.2 hr.1
  · exact ren_rp hf h _ hr.2 hr.1
theorem refs_get {one : PV → PV → Prop} : ∀ {tm tm' : List PV}, refs one tm tm' → tm.length = tm'.length ∧ ∀ (j : Nat) q, tm'[j]? = some q → ∃ p, tm[j]? = some p ∧ one p q
  | [], [], _ => ⟨rfl, fun j q h => by simp at h⟩
  | [], _ :: _, h => h.elim
  | _ :: _, [], h => h.elim
  | p :: ps, q :: qs, h => by
    rw [refs_cons] at h
    obtain ⟨h1, h2⟩ := refs_get h.2
    refine ⟨by simp [h1], fun j r hr => ?_⟩
    cases j with
    | zero => simp at hr; subst hr; exact ⟨p, rfl, h.1⟩
    | succ j => exact h2 j r (by simpa using hr)
theorem rp_refF {m : M} {s : List Nat} {nt : Nat} (hf : ∀ j, nt ≤ j → m.ρ 0 j = none) : ∀ (k : Nat) {p q : PV} {v : Value}, refF s s.length nt k p q → RP m p v → RP (m.ren s nt) q v
  | 0, p, q, v, hr, h => rp_refO hf hr h
  | k + 1, p, q, v, hr, h => by
    change refStep s s.length nt (refF s s.length nt k) p q at hr
    unfold refStep at hr
    split at hr
    · split at hr
      · obtain ⟨hl, hg⟩ := refs_get hr
        cases h with
        | tuple _ vs h1 h2 =>
          refine .tuple _ _ (hl.symm.trans h1) (fun j q v hq hv => ?_)
          obtain ⟨p, hp, hpq⟩ := hg j q hq
          exact rp_refF hf k hpq (h2 j p v hp hv)
      · exact hr.elim
    · split at hr
      · obtain ⟨hl, hg⟩ := refs_get hr
        cases h with
        | agg _ vs h1 h2 =>
          refine .agg _ _ (hl.symm.trans h1) (fun j q v hq hv => ?_)
          obtain ⟨p, hp, hpq⟩ := hg j q hq
          exact rp_refF hf k hpq (h2 j p v hp hv)
      · exact hr.elim
    · exact rp_refO hf hr h
theorem rp_ref {m : M} {s : List Nat} {nt : Nat} {p q : PV} {v : Value} (hf : ∀ j, nt ≤ j → m.ρ 0 j = none) (hr : refP s s.length nt p q) (h : RP m p v) : RP (m.ren s nt) q v := rp_refF hf 2 hr h
theorem refT_get {s : List Nat} {n nt : Nat} : ∀ {tm tm' : List PV}, refT s n nt tm tm' → tm.length = tm'.length ∧ ∀ (j : Nat) q, tm'[j]? = some q → ∃ p, tm[j]? = some p ∧ refP s n nt p q
  | [], [], _ => ⟨rfl, fun j q h => by simp at h⟩
  | [], _ :: _, h => h.elim
  | _ :: _, [], h => h.elim
  | p :: ps, q :: qs, h => by
    obtain ⟨h1, h2⟩ := refT_get h.2
    refine ⟨by simp [h1], fun j r hr => ?_⟩
    cases j with
    | zero => simp at hr; subst hr; exact ⟨p, rfl, h.1⟩
    | succ j => exact h2 j r (by simpa using hr)
theorem refB_get {s : List Nat} {n : Nat} {top : List Blk} : ∀ {js : List Nat} {bs : List Blk}, refB s n top js bs → js.length = bs.length ∧ ∀ (i : Nat) b, bs[i]? = some b → ∃ j, js[i]? = some j ∧ (match b with
      | .dead => True
      | .gen Y st => top[j]? = some (.gen Y st)
      | .row e sz xs => top[j]? = some (.row e sz xs) ∨ (top.length ≤ j ∧ xs = [] ∧ 0 < sz)
      | .box cs => ∃ cs', top[j]? = some (.box cs') ∧ refT s n top.length cs' cs)
  | [], [], _ => ⟨rfl, fun i b h => by simp at h⟩
  | [], _ :: _, h => h.elim
  | _ :: _, [], h => h.elim
  | j :: js, b :: bs, h => by
    obtain ⟨h1, h2⟩ := refB_get h.2
    refine ⟨by simp [h1], fun i b' hb => ?_⟩
    cases i with
    | zero =>
      simp at hb
      subst hb
      refine ⟨j, rfl, ?_⟩
      have := h.1
      cases b with
      | dead => trivial
      | gen Y st =>
        simp only [refOne] at this
        dsimp only
        split at this
        · rename_i h3; obtain ⟨rfl, rfl⟩ := this; exact h3
        · exact this.elim
      | row e sz xs =>
        simp only [refOne] at this
        dsimp only
        split at this
        · rename_i h3; obtain ⟨rfl, rfl, rfl⟩ := this; exact .inl h3
        · rename_i h3; exact .inr ⟨List.getElem?_eq_none_iff.1 h3, this.1, by simpa [Nat.blt_eq] using this.2⟩
        · exact this.elim
      | box cs =>
        simp only [refOne] at this
        dsimp only
        split at this
        · rename_i h3; exact ⟨_, h3, this⟩
        · exact this.elim
    | succ i => exact h2 i b' (by simpa using hb)
theorem nodup_get {s : List Nat} (h : nodupB s = true) : ∀ (i j : Nat) x, s[i]? = some x → s[j]? = some x → i = j := by
  induction s with
  | nil => intro i j x hi; simp at hi
  | cons y s ih =>
    simp only [nodupB, Bool.and_eq_true, Bool.not_eq_true'] at h
    have hno : y ∉ s := fun hy => by
      have := h.1
      rw [List.any_eq_false] at this
      exact this y hy (by simp)
    intro i j x hi hj
    cases i with
    | zero =>
      simp at hi; subst hi
      cases j with
      | zero => rfl
      | succ j => exact absurd (List.mem_of_getElem? (by simpa using hj)) hno
    | succ i =>
      cases j with
      | zero => simp at hj; subst hj; exact absurd (List.mem_of_getElem? (by simpa using hi)) hno
      | succ j => rw [ih h.2 i j x (by simpa using hi) (by simpa using hj)]

theorem inv_ren {m : M} {s : List Nat} {top top' : List Blk} {H : List (List Blk)} (hi : Inv m top H) (hf : ∀ j, top.length ≤ j → m.ρ 0 j = none) (hs : nodupB s = true) (hb : refB s s.length top s top') : Inv (m.ren s top.length) top' H := by
  obtain ⟨hlen, hget⟩ := refB_get hb
  have get0 : ∀ i j v, s[i]? = some j → (m.ren s top.length).ρ 0 i = some v → (m.ρ 0 j = some v ∧ j < top.length) ∨ (top.length ≤ j ∧ v = .slice none 0 0) := by
    intro i j v hj hv
    simp only [M.ren, hj, Option.bind_some] at hv
    split at hv
    · exact .inl ⟨hv, by assumption⟩
    · cases hv; exact .inr ⟨by omega, rfl⟩
  have old : ∀ l i b v k, getB top' H l i = some b → b.live = true → (m.ren s top.length).ρ l i = some v → blkOf v = some k → ∃ j b', getB top H l j = some b' ∧ b'.live = true ∧ m.ρ l j = some v ∧ (l = 0 → s[i]? = some j) ∧ (l ≠ 0 → i = j) := by
    intro l i b v k h1 h2 h3 hk
    cases l with
    | succ l => exact ⟨i, b, h1, h2, h3, (fun h => by cases h), fun _ => rfl⟩
    | zero =>
      obtain ⟨j, hj, hm⟩ := hget i b h1
      rcases get0 i j v hj h3 with ⟨h3, hlt⟩ | ⟨_, rfl⟩
      · cases b with
        | dead => cases h2
        | gen Y st => cases h2
        | row e sz xs =>
          rcases hm with hm | ⟨hm, _⟩
          · exact ⟨j, _, hm, rfl, h3, fun _ => hj, fun h => absurd rfl h⟩
          · omega
        | box cs => obtain ⟨cs', h4, _⟩ := hm; exact ⟨j, _, h4, rfl, h3, fun _ => hj, fun h => absurd rfl h⟩
      · cases hk
  refine ⟨fun l i b h1 => ?_, fun l i b l' i' b' v v' k h1 h2 h3 h4 h5 h6 h7 h8 => ?_, fun l i b v k h1 h2 h3 h4 => ?_, hi.lt⟩
  · cases l with
    | succ l =>
      have := hi.blk (l + 1) i b h1
      cases b with
      | dead => trivial
      | gen Y st => trivial
      | row e sz xs => exact this
      | box cs => exact this
    | zero =>
      obtain ⟨j, hj, hm⟩ := hget i b h1
      cases b with
      | dead => trivial
      | gen Y st => trivial
      | row e sz xs =>
        intro v hv
        rcases hm with hm | ⟨hm, rfl, hsz⟩
        · rcases get0 i j v hj hv with ⟨hv, _⟩ | ⟨hge, _⟩
          · exact hi.blk 0 j _ hm v hv
          · have := (List.getElem?_eq_some_iff.1 hm).1; omega
        · rcases get0 i j v hj hv with ⟨_, hlt⟩ | ⟨_, rfl⟩
          · omega
          · exact ⟨hsz, (fun x hx => by cases hx), [], ⟨by simp, .inl ⟨rfl, rfl⟩⟩, (fun i x j y u hx => by simp at hx)⟩
      | box cs =>
        obtain ⟨cs', h4, h5⟩ := hm
        intro v hv
        rcases get0 i j v hj hv with ⟨hv, _⟩ | ⟨hge, _⟩
        · obtain ⟨g, vs, e, h6, h7, h8, h9⟩ := hi.blk 0 j _ h4 v hv
          obtain ⟨hl, hg⟩ := refT_get h5
          refine ⟨g, vs, e, h6, h7, by rw [h8, hl], fun k q u hq hu => ?_⟩
          obtain ⟨p, hp, hr⟩ := hg k q hq
          exact rp_ref hf hr (h9 k p u hp hu)
        · have := (List.getElem?_eq_some_iff.1 h4).1; omega
  · obtain ⟨j, c, a1, a2, a3, a4, a5⟩ := old l i b v k h1 h2 h5 h7
    obtain ⟨j', c', b1, b2, b3, b4, b5⟩ := old l' i' b' v' k h3 h4 h6 h8
    obtain ⟨rfl, rfl⟩ := hi.inj l j c l' j' c' v v' k a1 a2 b1 b2 a3 b3 h7 h8
    refine ⟨rfl, ?_⟩
    by_cases hl : l = 0
    · exact nodup_get hs i i' j (a4 hl) (b4 hl)
    · rw [a5 hl, b5 hl]
  · obtain ⟨j, c, a1, a2, a3, _⟩ := old l i b v k h1 h2 h3 h4
    exact hi.own l j c v k a1 a2 a3 h4

theorem mine_ren {m : M} {s : List Nat} {top top' : List Blk} (h3 : refB s s.length top s top') {k : Nat} (h : Mine (m.ren s top.length) top' k) : Mine m top k := by
  obtain ⟨i, b, v, q1, q2, q3, q4⟩ := h
  obtain ⟨hlen, hget⟩ := refB_get h3
  obtain ⟨j, hj, hm⟩ := hget i b q1
  simp only [M.ren, hj, Option.bind_some] at q3
  split at q3
  · cases b with
    | dead => cases q2
    | gen Y st => cases q2
    | row e sz xs =>
      rcases hm with hm | ⟨hm, _⟩
      · exact ⟨j, _, v, hm, rfl, q3, q4⟩
      · omega
    | box cs => obtain ⟨cs', h4, _⟩ := hm; exact ⟨j, _, v, h4, rfl, q3, q4⟩
  · cases q3; cases q4
theorem since_ren {m0 : M0} {m : M} {s : List Nat} {top top' : List Blk} (h3 : refB s s.length top s top') (t : Since m0 m top) : Since m0 (m.ren s top.length) top' :=
  ⟨t.os, t.tape, t.output, t.size, t.heap, fun l i => t.up l i, t.U, fun k hk => t.fresh k (mine_ren h3 hk)⟩
theorem ren_free {m : M} {s : List Nat} {nt n : Nat} (h : s.length = n) : ∀ j, n ≤ j → (m.ren s nt).ρ 0 j = none := fun j hj => by
  simp [M.ren, List.getElem?_eq_none (show s.length ≤ j by omega)]
theorem St.ref {H : List (List Blk)} {m0 : M0} {m : M} {a : Act} {tm tm' : List PV} {top top' : List Blk} (h : St H m0 m a tm top) {s : List Nat} (hr : Ref s tm top tm' top') : St H m0 (m.ren s top.length) a tm' top' := by
  obtain ⟨h1, h2, h3⟩ := hr
  obtain ⟨hl, hg⟩ := refT_get h2
  obtain ⟨hlen, _⟩ := refB_get h3
  refine ⟨inv_ren h.inv h.free h1 h3, by rw [h.size, hl], fun j q v hq hv => ?_, h.defers, ren_free hlen, since_ren h3 h.since, h.tsz, h.prot⟩
  obtain ⟨p, hp, hr⟩ := hg j q hq
  exact rp_ref h.free hr (h.rel j p v hp hv)
theorem Full.ref {H : List (List Blk)} {m0 : M0} {m : M} {a : Act} {tm tm' : List PV} {top top' : List Blk} (h : Full H m0 m a tm top) {s : List Nat} (hr : Ref s tm top tm' top') : Full H m0 (m.ren s top.length) a tm' top' := by
  obtain ⟨hs, V, hc⟩ := h
  have hs' := hs.ref hr
  obtain ⟨h1, h2, h3⟩ := hr
  obtain ⟨hlen, hget⟩ := refB_get h3
  have mineLe : ∀ k, Mine (m.ren s top.length) top' k → Mine m top k := fun k => mine_ren h3
  have genLe : ∀ (i : Nat) Y st, top'[i]? = some (.gen Y st) → ∃ j, s[i]? = some j ∧ top[j]? = some (.gen Y st) := fun i Y st hi => hget i _ hi
  have quiet : ∀ k o, Quiet m top V k o → Quiet (m.ren s top.length) top' V k o := fun k o q => ⟨q.heap, fun hm => q.mine (mineLe k hm), q.out, q.used⟩
  refine ⟨hs', V, fun i j Y st Y' st' q1 q2 => ?_, hc.used, hc.more, hc.old, fun k hk hm => hc.mine k hk (mineLe k hm), fun i Y st hi => ?_, fun k o hz => quiet k o (hc.z k o hz), hc.nd, hc.late, fun d hd => ?_⟩
  · obtain ⟨x, e1, e2⟩ := genLe i Y st q1
    obtain ⟨y, e3, e4⟩ := genLe j Y' st' q2
    obtain rfl := hc.one x y _ _ _ _ e2 e4
    exact nodup_get h1 i j x e1 e3
  · obtain ⟨j, _, e⟩ := genLe i Y st hi
    exact hc.gen j Y st e
  · obtain ⟨D, e1, e2⟩ := hc.d d hd
    exact ⟨D, e1, quiet _ _ e2⟩
end Go.Proofs.Ve
