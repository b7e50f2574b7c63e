/- What the value machine says of an operation is so: indices, sums, turned values, cuts. -/
import Derived.Test.YtpmhiiembbfbeaaV6
set_option linter.all false
namespace Go.Proofs.Ve
open Go

theorem add_block (a : Addr) (n : Nat) : (a.add n).block = a.block := by unfold Addr.add; split <;> rfl
theorem add_add (a : Addr) (i j : Nat) : (a.add i).add j = a.add (i + j) := by
  unfold Addr.add; by_cases h1 : i = 0 <;> by_cases h2 : j = 0 <;> simp [h1, h2, Nat.add_assoc]
theorem iptr_drop {m : M} {cs : List DV} {ad : Addr} (h : RP m (.iptr cs) (.pointer (some ad))) (n : Nat) : RP m (.iptr (cs.drop n)) (.pointer (some (ad.add n))) := by
  cases h with
  | iptr _ _ u hc hr =>
    refine .iptr _ _ (fun k => u (n + k)) (fun k y hy => ?_) (fun k y hy => ?_)
    · rw [List.getElem?_drop] at hy; rw [add_add, add_block]; exact hc _ y hy
    · rw [List.getElem?_drop] at hy; exact hr _ y hy

theorem idxK_spec {C : Cx} (hC : C.Ok) {H : List (List Blk)} {top : List Blk} {t : Nat} {p : PV} {n : Int} {K : PV → Prop} (h : idxK C H top t p n K) :
    ∃ q, K q ∧ ∀ m v k, Inv m top H → RP m p v → ∃ u, (Instr.indexAt t v (.int k n)).run C.P m.w = .ok u m.w ∧ RP m q u := by
  obtain ⟨r, hr, ht, hk⟩ := lookK_spec h
  clear h
  subst ht
  have h := hk
  clear hk
  obtain ⟨i, z, d, hi, hs, hb, hz, hzz, hd, hty⟩ := row_info hC hr
  split at h
  · rename_i e he
    obtain ⟨r', hr', ht', hk⟩ := lookK_spec h
    clear h
    subst ht'
    have h := hk
    clear hk
    obtain ⟨i', z', d', hi', hs', hb', hz', hzz', hd', hty'⟩ := row_info hC hr'
    rw [he] at hty
    cases d <;> simp only [tyOf] at hty <;> try (cases hty; done)
    rename_i e2
    simp only [Ty.slice.injEq] at hty
    subst hty
    have hrun : ∀ (w : World) (a : Addr) (len c : Nat) (k : IntKind), 0 ≤ n → n < (len : Int) → (Instr.indexAt r.t (.slice (some a) len c) (.int k n)).run C.P w = .ok (.pointer (some (a.add (n.toNat * r'.size)))) w := by
      intro w a len c k h0 h1
      simp [Instr.indexAt, asIntOf, run_under hd, h0, h1, run_size hi', hs']
    split at h
    · rename_i xs
      obtain ⟨h0, y, hy, hyl, hq⟩ := h
      refine ⟨_, hq, fun m v k _ hv => ?_⟩
      cases hv with
      | d _ _ hv =>
        cases hv with
        | sl sz _ A n' c ad u hn hc hm hA hsz hcell hrr =>
          have hlt : n.toNat < xs.length := (List.getElem?_eq_some_iff.1 hy).1
          have hAs : A = some ad := hA (by omega)
          subst hAs
          have hsz' : r'.size = sz := by rw [← hyl]; exact hsz y (List.mem_of_getElem? hy)
          refine ⟨_, hrun m.w ad n' c k h0 (by omega), .iptr _ _ (fun j => u (n.toNat * sz + j)) (fun j y' hy' => ?_) (fun j y' hy' => ?_)⟩
          · rw [add_add, add_block, hsz']; exact hcell _ y j y' hy hy'
          · exact hrr _ y j y' hy hy'
    · rename_i l j m'
      obtain ⟨b, hb2, h⟩ := blkK_spec h
      split at h
      · rename_i e3 sz xs
        simp only [ifK] at h
        split at h
        · rename_i hsz
          have hsz := Nat.eq_of_beq_eq_true hsz
          obtain ⟨h0, h1, hq⟩ := h
          refine ⟨_, hq, fun m v k hinv hv => ?_⟩
          cases hv with
          | row _ _ _ N c A hρ hn hNc =>
            obtain ⟨hp, hxs, flat, ho, hc⟩ := hinv.blk l j _ hb2 _ hρ
            rcases ho.2 with ⟨h2, _⟩ | ⟨g, cap, cur, h2, hg⟩
            · simp only [Value.slice.injEq] at h2; omega
            · simp only [Value.slice.injEq] at h2
              obtain ⟨rfl, rfl, rfl⟩ := h2
              refine ⟨_, hrun m.w _ m' c k h0 h1, ?_⟩
              rw [add_none, Nat.zero_add, show n.toNat * r'.size = n.toNat * r'.size + 0 by omega]
              exact .rptr _ _ _ _ _ _ _ _ hρ
        · exact h.elim
      · exact h.elim
    · exact h.elim
  · rename_i len e he
    obtain ⟨r', hr', ht', hk⟩ := lookK_spec h
    clear h
    subst ht'
    have h := hk
    clear hk
    obtain ⟨i', z', d', hi', hs', hb', hz', hzz', hd', hty'⟩ := row_info hC hr'
    rw [he] at hty
    cases d <;> simp only [tyOf] at hty <;> try (cases hty; done)
    rename_i len2 e2
    simp only [Ty.arr.injEq] at hty
    obtain ⟨rfl, rfl⟩ := hty
    have len := len2
    have hrun : ∀ (w : World) (a : Addr) (k : IntKind), 0 ≤ n → n < (len2 : Int) → (Instr.indexAt r.t (.pointer (some a)) (.int k n)).run C.P w = .ok (.pointer (some (a.add (n.toNat * r'.size)))) w := by
      intro w a k h0 h1
      simp [Instr.indexAt, asIntOf, run_under hd, h0, h1, run_size hi', hs', Instr.sureAddr]
    split at h
    · rename_i l j o
      obtain ⟨h0, h1, k0, rfl, hq⟩ := h
      refine ⟨_, hq, fun m v k hinv hv => ?_⟩
      cases hv with
      | ptr _ _ _ g hρ =>
        refine ⟨_, hrun m.w _ k h0 h1, ?_⟩
        rw [add_none]; exact .ptr _ _ _ _ hρ
    · rename_i l j sz e' j'
      obtain ⟨h0, h1, k0, rfl, hq⟩ := h
      refine ⟨_, hq, fun m v k hinv hv => ?_⟩
      cases hv with
      | rptr _ _ _ _ _ g N c hρ =>
        refine ⟨_, hrun m.w _ k h0 h1, ?_⟩
        rw [add_none, Nat.add_assoc]; exact .rptr _ _ _ _ _ _ _ _ hρ
    · rename_i cs
      obtain ⟨h0, h1, k0, rfl, hq⟩ := h
      obtain ⟨hl, hq⟩ := dropK_spec.1 hq
      refine ⟨_, hq, fun m v k hinv hv => ?_⟩
      cases hv with
      | iptr _ ad u hc hr2 => exact ⟨_, hrun m.w _ k h0 h1, iptr_drop (.iptr _ _ u hc hr2) _⟩
    · exact h.elim
  · exact h.elim

theorem rd_bool {m : M} (b : Bool) : RP m (.d (.bool b)) (.bool b) := .d _ _ (.bool b)
theorem rd_int {m : M} (k : IntKind) (n : Int) : RP m (.d (.int k n)) (.int k n) := .d _ _ (.int k n)
theorem intOpK_spec {op : BinOp} {k : IntKind} {a b : Int} {K : PV → Prop} (h : intOpK op k a b K) :
    ∃ q, K q ∧ ∀ (P : Program) (m : M) (t : TypeId) (x y : Operand), ∃ u, (do eqGuard op t x y (.int k a) (.int k b); binOp op t (.int k a) (.int k b)).run P m.w = .ok u m.w ∧ RP m q u := by
  cases op <;> simp only [intOpK] at h <;> try exact h.elim
  · exact ⟨_, h _ rfl, fun P m t x y => ⟨_, by simp [eqGuard, binOp, Op.intArith] <;> rfl, rd_int _ _⟩⟩
  · exact ⟨_, h _ rfl, fun P m t x y => ⟨_, by simp [eqGuard, binOp, Op.intArith] <;> rfl, rd_int _ _⟩⟩
  · exact ⟨_, h _ rfl, fun P m t x y => ⟨_, by simp [eqGuard, binOp, Op.intArith] <;> rfl, rd_int _ _⟩⟩
  · exact ⟨_, h.2 _ rfl, fun P m t x y => ⟨_, by simp [eqGuard, binOp, Op.intDiv, h.1] <;> rfl, rd_int _ _⟩⟩
  · exact ⟨_, h.2 _ rfl, fun P m t x y => ⟨_, by simp [eqGuard, binOp, Op.intDiv, h.1] <;> rfl, rd_int _ _⟩⟩
  · exact ⟨_, h _ rfl, fun P m t x y => ⟨_, by simp [eqGuard, binOp, Op.intBits] <;> rfl, rd_int _ _⟩⟩
  · exact ⟨_, h _ rfl, fun P m t x y => ⟨_, by simp [eqGuard, binOp, Op.intBits] <;> rfl, rd_int _ _⟩⟩
  · exact ⟨_, h _ rfl, fun P m t x y => ⟨_, by simp [eqGuard, binOp, Op.intBits] <;> rfl, rd_int _ _⟩⟩
  · exact ⟨_, h, fun P m t x y => ⟨_, by simp [eqGuard, binOp, Op.intCmp] <;> rfl, rd_bool _⟩⟩
  · exact ⟨_, h, fun P m t x y => ⟨_, by simp [eqGuard, binOp, Op.intCmp] <;> rfl, rd_bool _⟩⟩
  · exact ⟨_, h, fun P m t x y => ⟨_, by simp [eqGuard, binOp, Op.intCmp] <;> rfl, rd_bool _⟩⟩
  · exact ⟨_, h, fun P m t x y => ⟨_, by simp [eqGuard, binOp, Op.intCmp] <;> rfl, rd_bool _⟩⟩
  · exact ⟨_, h, fun P m t x y => ⟨_, by simp [eqGuard, binOp, Op.intCmp] <;> rfl, rd_bool _⟩⟩
  · exact ⟨_, h, fun P m t x y => ⟨_, by simp [eqGuard, binOp, Op.intCmp] <;> rfl, rd_bool _⟩⟩
theorem strOpK_spec {op : BinOp} {a b : ByteArray} {K : PV → Prop} (h : strOpK op a b K) :
    ∃ q, K q ∧ ∀ (P : Program) (m : M) (t : TypeId) (x y : Operand), ∃ u, (do eqGuard op t x y (.string a) (.string b); binOp op t (.string a) (.string b)).run P m.w = .ok u m.w ∧ RP m q u := by
  cases op <;> simp only [strOpK] at h <;> try exact h.elim
  all_goals exact ⟨_, h, fun P m t x y => ⟨_, by simp only [eqGuard, binOp, Op.stringOp]; rfl, rd_bool _⟩⟩
theorem boolOpK_spec {op : BinOp} {a b : Bool} {K : PV → Prop} (h : boolOpK op a b K) :
    ∃ q, K q ∧ ∀ (P : Program) (m : M) (t : TypeId) (x y : Operand), P.underlying t = some .bool → ∃ u, (do eqGuard op t x y (.bool a) (.bool b); binOp op t (.bool a) (.bool b)).run P m.w = .ok u m.w ∧ RP m q u := by
  have heq : ∀ (P : Program) (t : TypeId) (w : World), P.underlying t = some .bool → (Op.equal t (.bool a) (.bool b)).run P w = .ok (a == b) w := by
    intro P t w ht
    have : ∀ d, (Op.equalIn (d + 1) t (.bool a) (.bool b)).run P w = .ok (a == b) w := fun d => by
      simp only [Op.equalIn, Sem.run_bind, run_under ht, Result.andThen_ok, Sem.run_pure]
    exact this 9999
  cases op <;> simp only [boolOpK] at h <;> try exact h.elim
  · exact ⟨_, h, fun P m t x y ht => ⟨_, by simp [eqGuard, binOp, heq P t m.w ht] <;> rfl, rd_bool _⟩⟩
  · exact ⟨_, h, fun P m t x y ht => ⟨_, by simp [eqGuard, binOp, heq P t m.w ht] <;> rfl, rd_bool _⟩⟩
theorem nilCmpK_spec {op : BinOp} {K : PV → Prop} (h : nilCmpK op K) :
    K .ub ∧ ∀ (P : Program) (m : M) (t e : TypeId) (x y : Operand) (A : Option Addr) (n c : Nat), P.underlying t = some (.slice e) →
      ∃ u, (do eqGuard op t x y (.slice A n c) (.slice none 0 0); binOp op t (.slice A n c) (.slice none 0 0)).run P m.w = .ok u m.w ∧ RP m .ub u := by
  have heq : ∀ (P : Program) (t e : TypeId) (w : World) (A : Option Addr) (n c : Nat), P.underlying t = some (.slice e) → ∃ b, (Op.equal t (.slice A n c) (.slice none 0 0)).run P w = .ok b w := by
    intro P t e w A n c ht
    have : ∀ d, (Op.equalIn (d + 1) t (.slice A n c) (.slice none 0 0)).run P w = .ok A.isNone w := fun d => by
      cases A <;> simp only [Op.equalIn, Sem.run_bind, run_under ht, Result.andThen_ok, Sem.run_pure] <;> rfl
    exact ⟨_, this 9999⟩
  cases op <;> simp only [nilCmpK] at h <;> try exact h.elim
  · refine ⟨h, fun P m t e x y A n c ht => ?_⟩
    obtain ⟨b, hb⟩ := heq P t e m.w A n c ht
    exact ⟨.bool b, by simp [eqGuard, binOp, hb], .ub _⟩
  · refine ⟨h, fun P m t e x y A n c ht => ?_⟩
    obtain ⟨b, hb⟩ := heq P t e m.w A n c ht
    exact ⟨.bool (!b), by simp [eqGuard, binOp, hb], .ub _⟩
theorem ty_bool {d : TypeDesc} {ty : Ty} (h : tyOf d = ty) (hb : ty.isBool = true) : d = .bool := by
  subst h; cases d <;> simp [tyOf, Ty.isBool] at hb <;> rfl
theorem ty_slice {d : TypeDesc} {ty : Ty} (h : tyOf d = ty) (hb : ty.isSlice = true) : ∃ e, d = .slice e := by
  subst h; cases d <;> simp [tyOf, Ty.isSlice] at hb <;> exact ⟨_, rfl⟩
theorem boolsK_spec {op : BinOp} {a : Bool} {q : PV} {K : PV → Prop} (h : boolsK op a q K) : ∃ b r, K r ∧ (∀ m v, RP m q v → v = .bool b) ∧
    ∀ (P : Program) (m : M) (t : TypeId) (x y : Operand), P.underlying t = some .bool → ∃ u, (do eqGuard op t x y (.bool a) (.bool b); binOp op t (.bool a) (.bool b)).run P m.w = .ok u m.w ∧ RP m r u := by
  unfold boolsK at h
  split at h
  · obtain ⟨r, hr, hh⟩ := boolOpK_spec h
    exact ⟨_, r, hr, fun m v hv => (by cases hv with | d _ _ hv => cases hv; rfl), hh⟩
  · obtain ⟨r, hr, hh⟩ := boolOpK_spec h
    exact ⟨_, r, hr, fun m v hv => (by cases hv; rfl), hh⟩
  · exact h.elim
theorem binK_spec {C : Cx} (hC : C.Ok) {op : BinOp} {t : Nat} {p q : PV} {K : PV → Prop} (h : binK C op t p q K) :
    ∃ r, K r ∧ ∀ m v v' x y, RP m p v → RP m q v' → ∃ u, (do eqGuard op t x y v v'; binOp op t v v').run C.P m.w = .ok u m.w ∧ RP m r u := by
  unfold binK at h
  split at h
  · rename_i k a
    split at h
    · rename_i k' b
      simp only [ifK] at h
      split at h
      · rename_i hk
        obtain rfl := kEq_eq hk
        obtain ⟨r, hr, hh⟩ := intOpK_spec h
        refine ⟨r, hr, fun m v v' x y hv hv' => ?_⟩
        cases hv with | d _ _ hv => cases hv; cases hv' with | d _ _ hv' => cases hv'; exact hh C.P m t x y
      · exact h.elim
    · exact h.elim
  · rename_i a
    split at h
    · obtain ⟨r, hr, hh⟩ := strOpK_spec h
      refine ⟨r, hr, fun m v v' x y hv hv' => ?_⟩
      cases hv with | d _ _ hv => cases hv; cases hv' with | d _ _ hv' => cases hv'; exact hh C.P m t x y
    · exact h.elim
  · rename_i a
    obtain ⟨r, hr, ht, hk⟩ := lookK_spec h
    subst ht
    obtain ⟨i, z, d, hi, hs, hb, hz, hzz, hd, hty⟩ := row_info hC hr
    simp only [ifK] at hk
    split at hk
    · rename_i hbool
      obtain rfl := ty_bool hty hbool
      obtain ⟨b, r', hr', hq, hh⟩ := boolsK_spec hk
      refine ⟨r', hr', fun m v v' x y hv hv' => ?_⟩
      cases hv with | d _ _ hv => cases hv; rw [hq m v' hv']; exact hh C.P m _ x y hd
    · exact hk.elim
  · rename_i a
    obtain ⟨r, hr, ht, hk⟩ := lookK_spec h
    subst ht
    obtain ⟨i, z, d, hi, hs, hb, hz, hzz, hd, hty⟩ := row_info hC hr
    simp only [ifK] at hk
    split at hk
    · rename_i hbool
      obtain rfl := ty_bool hty hbool
      obtain ⟨b, r', hr', hq, hh⟩ := boolsK_spec hk
      refine ⟨r', hr', fun m v v' x y hv hv' => ?_⟩
      cases hv; rw [hq m v' hv']; exact hh C.P m _ x y hd
    · exact hk.elim
  · rename_i xs
    obtain ⟨r, hr, ht, hk⟩ := lookK_spec h
    subst ht
    obtain ⟨i, z, d, hi, hs, hb, hz, hzz, hd, hty⟩ := row_info hC hr
    simp only [ifK] at hk
    split at hk
    · rename_i hsl
      obtain ⟨e, rfl⟩ := ty_slice hty hsl
      split at hk
      · obtain ⟨hr', hh⟩ := nilCmpK_spec hk
        refine ⟨_, hr', fun m v v' x y hv hv' => ?_⟩
        cases hv with | d _ _ hv => cases hv; cases hv'; exact hh C.P m _ e x y _ _ _ hd
      · exact hk.elim
    · exact hk.elim
  · exact h.elim
end Go.Proofs.Ve
