/- What the value machine says of an operation is so: whole. -/
import Derived.Test.YtpmhiiembbfbeaaV11
set_option linter.all false
namespace Go.Proofs.Ve
open Go

theorem plain_fun {C : Cx} (hC : C.Ok) {f : Nat} (h : C.plain f = true) : ∃ fn, C.P.funcs[f]? = some fn ∧ fn.body.isSome = true ∧ (fn.name == "runtime.NumGoroutine") = false := by
  have hf := hC.funs
  unfold funsB at hf
  rw [List.all_eq_true] at hf
  simp only [Cx.plain, Bool.and_eq_true, Bool.not_eq_true'] at h
  obtain ⟨h1, h2⟩ := h
  have := hf f (List.mem_range.2 (by simpa [Nat.blt_eq] using h1))
  rw [h2, Bool.false_or] at this
  split at this
  · rename_i fn hfn
    simp only [Bool.and_eq_true, Bool.not_eq_true'] at this
    exact ⟨fn, hfn, this.1, this.2⟩
  · cases this
theorem run_callFunc {C : Cx} (hC : C.Ok) {f : Nat} (h : C.plain f = true) (args : Array Value) (w : World) : (callFunc f args).run C.P w = .ok (.enter f args) w := by
  obtain ⟨fn, h1, h2, h3⟩ := plain_fun hC h
  obtain ⟨c, hc⟩ := Option.isSome_iff_exists.1 h2
  have h4 : ¬ fn.name = "runtime.NumGoroutine" := by simpa using h3
  simp [callFunc, h1, h4, hc]

theorem run_bytesX {P : Program} {m : M} {bs : List UInt8} {v : Value} (h : RP m (.d (.sl (bs.map fun b => [DV.int .u8 b.toNat]))) v) : (Extern.Bytes.bytesOf v).run P m.w = .ok ⟨bs.toArray⟩ m.w := by
  cases h with
  | d _ _ h =>
    cases h with
    | sl sz _ A n c ad u hn hc hm hA hsz hcell hr =>
      simp only [List.length_map] at hn
      have hb : Lib.bytesOf (bs.map fun b => (b.toNat : Int)) = bs := by simp [Lib.bytesOf, Function.comp_def]
      cases A with
      | none =>
        obtain rfl : bs = [] := by
          rcases Nat.eq_zero_or_pos n with h | h
          · exact List.eq_nil_of_length_eq_zero (by omega)
          · have := hA h; cases this
        rfl
      | some a0 =>
        have := Lib.run_loadBytesX (P := P) m.w (bs.map fun b => (b.toNat : Int)) a0 .empty (fun j x hx => by
          have h0 : 0 < n := by have := (List.getElem?_eq_some_iff.1 hx).1; simp at this; omega
          have hA' := hA h0
          cases hA'
          rw [List.getElem?_map] at hx
          obtain ⟨b, hb, rfl⟩ := Option.map_eq_some_iff.1 hx
          have h1 : (bs.map fun b => [DV.int .u8 (b.toNat : Int)])[j]? = some [DV.int .u8 (b.toNat : Int)] := by rw [List.getElem?_map, hb]; rfl
          have hs1 : sz = 1 := (hsz _ (List.mem_of_getElem? h1)).symm
          subst hs1
          have h2 := (hcell j _ 0 _ h1 rfl).2
          have h3 := hr j _ 0 _ h1 rfl
          rw [Nat.mul_one, Nat.add_zero] at h2 h3
          rw [h2]
          generalize u j = uu at h3
          cases h3; rfl)
        rw [List.length_map, hn] at this
        simp only [Extern.Bytes.bytesOf, this, hb]
        rw [show ByteArray.empty.data = #[] from rfl, Array.empty_append]

theorem growAt_mem {l : List (Nat × Nat)} {g e : Nat} (h : growAt l g = some e) : (g, e) ∈ l := by
  induction l with
  | nil => cases h
  | cons p l ih =>
    obtain ⟨f, e'⟩ := p
    change (match Nat.beq f g with | true => some e' | false => growAt l g) = some e at h
    split at h
    · rename_i hb
      have := Nat.eq_of_beq_eq_true hb
      subst this
      cases h
      exact List.mem_cons_self
    · exact List.mem_cons_of_mem _ (ih h)
theorem opK_step {C : Cx} (hC : C.Ok) {H : List (List Blk)} {o : Oper} {tm : List PV} {top : List Blk} {K : PV → List Blk → Prop} (h : opK C H o.op tm top K) :
    ∃ pv top', K pv top' ∧ top <+: top' ∧ OpStep C H o tm top pv top' := by
  by_cases hcall : ∀ c, o.op ≠ .call c
  · exact opK_plain hC hcall h
  obtain ⟨c, ho⟩ : ∃ c, o.op = .call c := by
    cases ho : o.op <;> first | exact ⟨_, rfl⟩ | exact absurd (fun c hc => by rw [ho] at hc; cases hc) hcall
  rw [ho] at h
  simp only [opK] at h
  cases hcl : c.callee with
  | invoke r n => rw [hcl] at h; exact h.elim
  | builtin b =>
    rw [hcl] at h
    cases b <;> try exact h.elim
    -- len
    dsimp only at h
    split at h
    case h_2 => exact h.elim
    rename_i x t hx ht
    have hx' : c.args = #[x] := by rw [← Array.toArray_toList (xs := c.args), hx]
    have ht' : c.argTypes = #[t] := by rw [← Array.toArray_toList (xs := c.argTypes), ht]
    obtain ⟨p, hp, h⟩ := evK_ev h
    obtain ⟨r, hr, ht_, h_⟩ := lookK_spec h
    clear h
    subst ht_
    obtain ⟨i, z, d, hi, hs, hb, hz, hzz, hd, hty⟩ := row_info hC hr
    have mx : x ∈ o.op.operands.toList := by rw [ho]; simp [Op.operands, Call.operands, hcl, hx']
    have ex : ∀ (a : Act) (w : World) (v : Value), (Builtin.len_ #[r.t] o.type #[a.eval x]).run C.P w = .ok v w → (execOp a.eval o).run C.P w = .ok (.value v) w := fun a w v hv => by
      simp [execOp, ho, resolve, hcl, hx', ht', invoke, builtin, hv]
    have sl : ∀ (A : Option Addr) (n k : Nat) (w : World), r.ty.isSlice = true → (Builtin.len_ #[r.t] o.type #[.slice A n k]).run C.P w = .ok (.int .i64 n) w := fun A n k w hsl => by
      obtain ⟨e, rfl⟩ := ty_slice hty hsl
      simp [Builtin.len_, run_under hd, goInt]
    split at h_
    · rename_i xs
      simp only [ifK] at h_
      split at h_
      case h_2 => exact h_.elim
      rename_i hsl
      refine ⟨_, top, h_, List.prefix_refl _, step_val fun m a hinv he => ?_⟩
      have := ev_rel he mx hp
      generalize hv : a.eval x = v at this
      cases this with
      | d _ _ hx2 =>
        cases hx2 with
        | sl sz _ A n k ad u hn hc hm hA hsz hcell hr2 =>
          exact ⟨_, ex a _ _ (by rw [hv]; exact sl A n k _ hsl), by rw [hn]; exact rd_int _ _⟩
    · simp only [ifK] at h_
      split at h_
      case h_2 => exact h_.elim
      rename_i hsl
      refine ⟨_, top, h_, List.prefix_refl _, step_val fun m a hinv he => ?_⟩
      have := ev_rel he mx hp
      generalize hv : a.eval x = v at this
      cases this
      exact ⟨_, ex a _ _ (by rw [hv]; exact sl none 0 0 _ hsl), rd_int _ _⟩
    · simp only [ifK] at h_
      split at h_
      case h_2 => exact h_.elim
      rename_i hsl
      refine ⟨_, top, h_, List.prefix_refl _, step_val fun m a hinv he => ?_⟩
      have := ev_rel he mx hp
      generalize hv : a.eval x = v at this
      cases this with
      | row _ _ n N k A h1 h2 h3 => exact ⟨_, ex a _ _ (by rw [hv]; exact sl A _ k _ hsl), rd_int _ _⟩
    · rename_i s
      cases hT : r.ty <;> rw [hT] at h_ <;> try exact h_.elim
      rw [hT] at hty
      obtain rfl : d = .string := by cases d <;> simp [tyOf] at hty <;> rfl
      refine ⟨_, top, h_, List.prefix_refl _, step_val fun m a hinv he => ?_⟩
      have := ev_rel he mx hp
      generalize hv : a.eval x = v at this
      cases this with
      | d _ _ hx2 =>
        cases hx2
        exact ⟨_, ex a _ _ (by rw [hv]; simp [Builtin.len_, run_under hd, goInt]), rd_int _ _⟩
    · exact h_.elim
  | value f =>
    rw [hcl] at h
    dsimp only at h
    obtain ⟨p, hp, h⟩ := evK_ev h
    split at h
    case h_2 => exact h.elim
    rename_i g fs cs
    obtain ⟨as, h, hl, hr⟩ := evsK_spec (ys := o.op.operands.toList) h (fun x hx => by rw [ho]; simp only [Op.operands, Call.operands, hcl, Array.toList_append]; exact List.mem_append_right _ hx)
    rw [appK_spec, appK_spec] at h
    have hvals : ∀ (m : M) (a : Act) (fv cv : Array Value), EvR m a tm o.op.operands.toList → fs.length = fv.size → cs.length = cv.size → (∀ (j : Nat) p v, fs[j]? = some p → fv[j]? = some v → RP m p v) → (∀ (j : Nat) p v, cs[j]? = some p → cv[j]? = some v → RP m p v) →
        (fs ++ as ++ cs).length = (fv ++ c.args.map a.eval ++ cv).size ∧ ∀ (j : Nat) q u, (fs ++ as ++ cs)[j]? = some q → (fv ++ c.args.map a.eval ++ cv)[j]? = some u → RP m q u := by
      intro m a fv cv he e1 e2 r1 r2
      refine ⟨by simp [e1, e2, hl], fun j q u hq hu => ?_⟩
      have hls : fs.length = fv.size := e1
      have hl2 : as.length = c.args.size := by rw [hl]; simp
      rcases Nat.lt_or_ge j (fs ++ as).length with h1 | h1
      · rw [List.getElem?_append_left h1] at hq
        rw [Array.getElem?_append_left (by simp only [List.length_append, Array.size_append, Array.size_map] at h1 ⊢; omega)] at hu
        rcases Nat.lt_or_ge j fs.length with h2 | h2
        · rw [List.getElem?_append_left h2] at hq
          rw [Array.getElem?_append_left (by omega)] at hu
          exact r1 j q u hq hu
        · rw [List.getElem?_append_right h2] at hq
          rw [Array.getElem?_append_right (by omega), Array.getElem?_map, ← hls] at hu
          obtain ⟨x, hx, rfl⟩ := Option.map_eq_some_iff.1 hu
          exact hr m a he _ q x hq (by simpa using hx)
      · rw [List.getElem?_append_right h1] at hq
        rw [Array.getElem?_append_right (by simp only [List.length_append, Array.size_append, Array.size_map] at h1 ⊢; omega)] at hu
        have hsz : (fv ++ c.args.map a.eval).size = (fs ++ as).length := by simp [e1, hl2]
        rw [hsz] at hu
        exact r2 _ q u hq hu
    have mf : f ∈ o.op.operands.toList := by rw [ho]; simp [Op.operands, Call.operands, hcl]
    split at h
    · -- the comparison of bytes
      rename_i hg
      obtain ⟨k, hk1, hk2⟩ := List.any_eq_true.1 hg
      obtain rfl : g = k := Nat.eq_of_beq_eq_true hk2
      have hcmp := hC.cmps _ hk1
      unfold cmpK at h
      split at h
      case h_2 => exact h.elim
      rename_i xs ys hargs
      obtain ⟨bs1, bs2, rfl, rfl, h⟩ := h
      refine ⟨_, top, h, List.prefix_refl _, step_val fun m a hinv he => ?_⟩
      have hfv := ev_rel he mf hp
      generalize hv : a.eval f = v at hfv
      cases hfv with
      | func _ _ _ fv cv e1 e2 r1 r2 =>
        obtain ⟨q1, q2⟩ := hvals m a fv cv he e1 e2 r1 r2
        rw [hargs] at q1 q2
        obtain ⟨x, y, hxy⟩ : ∃ x y, fv ++ c.args.map a.eval ++ cv = #[x, y] := by
          generalize fv ++ c.args.map a.eval ++ cv = arr at q1
          obtain ⟨l⟩ := arr
          match l, q1 with
          | [x, y], _ => exact ⟨x, y, rfl⟩
        rw [hxy] at q2
        have rx := q2 0 _ x rfl rfl
        have ry := q2 1 _ y rfl rfl
        have bx : (Extern.Bytes.bytesOf x).run C.P m.w = .ok ⟨bs1.toArray⟩ m.w := run_bytesX rx
        have by_ : (Extern.Bytes.bytesOf y).run C.P m.w = .ok ⟨bs2.toArray⟩ m.w := run_bytesX ry
        refine ⟨_, ?_, rd_int _ _⟩
        simp only [execOp, ho, resolve, hcl, hv, Deferred.ofValue, Sem.run_bind, Sem.run_pure, Result.andThen_ok, invoke]
        rw [hxy, hcmp]
        rw [show Extern.BytealgCompare.compare #[x, y] = (do let a ← Extern.Bytes.bytesOf x; let b ← Extern.Bytes.bytesOf y; pure (goInt (Extern.BytealgCompare.cmp a b))) from rfl]
        simp [bx, by_, goInt]
    simp only [ifK] at h
    split at h
    case h_2 => exact h.elim
    rename_i hpl
    split at h
    · -- slices.Grow of nil
      rename_i e hgr
      have hgo := hC.grows (g, e) (growAt_mem hgr)
      unfold growK at h
      split at h
      case h_2 => exact h.elim
      rename_i k n hargs
      simp only [ifK] at h
      split at h
      case h_2 => exact h.elim
      rename_i hke
      obtain rfl := kEq_eq hke
      obtain ⟨h0, h_⟩ := h
      obtain ⟨r, hr, ht_, h⟩ := lookK_spec h_
      clear h_
      subst ht_
      split at h
      case h_2 => exact h.elim
      rename_i hpos
      have hpos : 0 < r.size := by simpa [Nat.blt_eq] using hpos
      rw [lenK_spec] at h
      split at h
      case h_2 => exact h.elim
      rename_i hzl
      have hzl := Nat.eq_of_beq_eq_true hzl
      obtain ⟨hby, h62, hk0, hk1⟩ := h
      obtain ⟨i, z, d, hi, hs, hb, hz, hzz, hd, hty⟩ := row_info hC hr
      have hzs : z.cells.size = r.size := by rw [← hzl, ← hzz]; simp
      obtain ⟨N, rfl⟩ : ∃ N : Nat, n = N := ⟨n.toNat, by omega⟩
      have two : ∀ (m : M) (a : Act) (fv cv : Array Value), EvR m a tm o.op.operands.toList → fs.length = fv.size → cs.length = cv.size → (∀ (j : Nat) p v, fs[j]? = some p → fv[j]? = some v → RP m p v) → (∀ (j : Nat) p v, cs[j]? = some p → cv[j]? = some v → RP m p v) →
          fv ++ c.args.map a.eval ++ cv = #[.slice none 0 0, .int .i64 N] := by
        intro m a fv cv he e1 e2 r1 r2
        obtain ⟨q1, q2⟩ := hvals m a fv cv he e1 e2 r1 r2
        rw [hargs] at q1 q2
        generalize fv ++ c.args.map a.eval ++ cv = arr at q1 q2
        obtain ⟨l⟩ := arr
        match l, q1, q2 with
        | [x, y], _, q2 =>
          have rx := q2 0 _ x rfl rfl
          have ry := q2 1 _ y rfl rfl
          cases rx
          cases ry with
          | d _ _ hy => cases hy; rfl
      have enter : ∀ (m : M) (a : Act), EvR m a tm o.op.operands.toList → (execOp a.eval o).run C.P m.w = .ok (.enter g #[.slice none 0 0, .int .i64 N]) m.w := by
        intro m a he
        have hfv := ev_rel he mf hp
        generalize hv : a.eval f = v at hfv
        cases hfv with
        | func _ _ _ fv cv e1 e2 r1 r2 =>
          simp only [execOp, ho, resolve, hcl, hv, Deferred.ofValue, Sem.run_bind, Sem.run_pure, Result.andThen_ok, invoke]
          rw [two m a fv cv he e1 e2 r1 r2]
          exact run_callFunc hC hpl _ _
      rcases Nat.eq_zero_or_pos N with hN | hN
      · subst hN
        refine ⟨_, top, hk0 rfl, List.prefix_refl _, fun m a hinv he hfree next Q hnext => ?_⟩
        unfold Oper.wp
        rw [enter m a he]
        show Calls C.P g _ m.w _
        refine ((hgo 0 m.w).1 rfl).mono ?_
        rintro e w' ⟨rfl, rfl⟩
        exact hnext _ m (Grow.refl m) (fun _ _ _ => rfl) (fun j u k h1 h2 => by omega) hinv .nils
      · have h := hk1 (by omega)
        unfold newK at h
        rw [lenK_spec, snocK_spec] at h
        refine ⟨_, _, h, List.prefix_append _ _, fun m a hinv he hfree next Q hnext => ?_⟩
        unfold Oper.wp
        rw [enter m a he]
        show Calls C.P g _ m.w _
        refine ((hgo N m.w).2 i z hi hz (by rw [hs]; exact hpos) (by rw [hzs, hs]) hN (by rw [hb]; have h9 := hby; rw [← Int.natCast_mul] at h9; omega) (by omega)).mono ?_
        rintro e w' ⟨cp, cur, rfl, rfl, hcur, hcap⟩
        have hfr : m.ρ 0 top.length = none := hfree _ (Nat.le_refl _) (by rw [List.length_append]; exact Nat.lt_succ_self _)
        let m1 : M := ⟨m.w.drew, m.ρ, m.U⟩
        have hK : Keep m m1 := ⟨fun _ _ _ h => h, Nat.le_refl _, fun k hk => ⟨hk.2, rfl⟩⟩
        have hinv1 : Inv m1 top H := ⟨fun l i b hb => (hinv.blk l i b hb).keep hK rfl (fun _ _ _ _ _ => rfl), hinv.inj, hinv.own, hinv.lt⟩
        have hg1 : Grow m m1 := ⟨rfl, rfl, rfl, Nat.le_refl _, fun _ _ => rfl, fun _ _ _ h => h, fun _ _ => Iff.rfl⟩
        have hg2 := grow_new m1 (.cells cur r.t (0, 0)) top.length (.slice (some ⟨m.w.heap.size, 0, none⟩) 0 cp) hfr
        refine hnext _ (m1.new (.cells cur r.t (0, 0)) top.length (.slice (some ⟨m.w.heap.size, 0, none⟩) 0 cp)) (hg1.trans hg2) (fun l j hj => ?_) (fun j u' k h1 h2 hu' hk => ?_) (inv_new hinv1 hfr rfl ?_) (.row _ _ _ 0 cp _ (by show (if 0 = 0 ∧ top.length = top.length then _ else _) = _; rw [if_pos ⟨rfl, rfl⟩]) (Nat.le_refl _) (Nat.zero_le _))
        · simp only [M.new]
          rw [if_neg]
          rintro ⟨rfl, rfl⟩
          exact hj ⟨rfl, Nat.le_refl _, by simp⟩
        · obtain rfl : j = top.length := by simp at h2; omega
          simp only [M.new, and_self, if_true, Option.some.injEq] at hu'
          subst hu'
          cases hk
          exact Nat.le_refl _
        · intro v hv
          simp only [M.new, and_self, if_true, Option.some.injEq] at hv
          subst hv
          refine ⟨hpos, (fun x hx => by cases hx), [], ⟨(Nat.zero_mul _).symm, .inr ⟨m.w.heap.size, cp, cur, rfl, Nat.zero_le _, ?_, Nat.zero_le _, hcap, by rw [hcur, hs], by rw [show ([] : List (List DV)).length * r.size = 0 from Nat.zero_mul _]; rfl⟩⟩, fun i x j y u hx => by simp at hx⟩
          exact heap_new m.w.drew _
    obtain ⟨pv, top', hk, hpre, hh⟩ := callK_spec h
    refine ⟨pv, top', hk, hpre, fun m a hinv he hfree next Q hnext => ?_⟩
    have hfv := ev_rel he mf hp
    generalize hv : a.eval f = v at hfv
    cases hfv with
    | func _ _ _ fv cv e1 e2 r1 r2 =>
      have hrun : (execOp a.eval o).run C.P m.w = .ok (.enter g (fv ++ c.args.map a.eval ++ cv)) m.w := by
        simp only [execOp, ho, resolve, hcl, hv, Deferred.ofValue, Sem.run_bind, Sem.run_pure, Result.andThen_ok, invoke]
        exact run_callFunc hC hpl _ _
      unfold Oper.wp
      rw [hrun]
      show Calls C.P g _ m.w _
      obtain ⟨q1, q2⟩ := hvals m a fv cv he e1 e2 r1 r2
      refine (hh m (fv ++ c.args.map a.eval ++ cv) hinv q1 q2 hfree).mono ?_
      · rintro e w' ⟨v, m', rfl, rfl, hg, hρ, hfr, hi, hr⟩
        exact hnext v m' hg hρ hfr hi hr
end Go.Proofs.Ve
