/- What the value machine says of what turns memory is so: append. -/
import Derived.Test.YtpmhiiembbfbeaaV13
set_option linter.all false
namespace Go.Proofs.Ve
open Go

theorem newsK_spec {top : List Blk} {sz : Nat} (h0 : 0 < sz) {x : PV} {K : List (List DV) → Prop} (h : newsK top sz x K) :
    ∃ ys, K ys ∧ ∀ (m : M) (H : List (List Blk)) v, Inv m top H → RP m x v → ∃ (A : Option Addr) (n c : Nat) (news : List Value), v = .slice A n c ∧ n = ys.length ∧ news.length = n * sz ∧ (A = none → n = 0) ∧ (∀ y ∈ ys, y.length = sz) ∧
      (∀ a, A = some a → ∀ (j : Nat) u, news[j]? = some u → m.w.cell? (a.add j) = some u) ∧ (∀ u ∈ news, u.oneCell' = true) ∧
      ∀ (i : Nat) y (j : Nat) z u, ys[i]? = some y → y[j]? = some z → news[i * sz + j]? = some u → RD m.w m.ok z u := by
  unfold newsK at h
  split at h
  · refine ⟨[], h, fun m H v _ hv => ?_⟩
    cases hv
    exact ⟨none, 0, 0, [], rfl, rfl, by simp, (fun _ => rfl), by simp, (fun a ha => by cases ha), by simp, (fun i y j z u hy => by simp at hy)⟩
  · rename_i ys
    obtain ⟨hys, h⟩ := h
    refine ⟨ys, h, fun m H v _ hv => ?_⟩
    cases hv with
    | d _ _ hv =>
      cases hv with
      | sl sz' _ A n c ad u hn hc hm hA hsz hcell hr =>
        have e : 0 < n → sz' = sz := fun hp => by
          obtain ⟨y, hy⟩ : ∃ y, y ∈ ys := ⟨ys[0]'(by omega), List.getElem_mem _⟩
          rw [← hsz y hy, hys y hy]
        have key : ∀ j, j < n * sz → ∃ i j' y z, j = i * sz + j' ∧ ys[i]? = some y ∧ y[j']? = some z := by
          intro j hj
          have hi : j / sz < n := Nat.div_lt_of_lt_mul (by rw [Nat.mul_comm]; exact hj)
          have hj' : j % sz < sz := Nat.mod_lt _ h0
          have h1 : ys[j / sz]? = some (ys[j / sz]'(by omega)) := List.getElem?_eq_getElem _
          have h2 : (ys[j / sz]'(by omega)).length = sz := hys _ (List.getElem_mem _)
          exact ⟨j / sz, j % sz, _, _, by rw [Nat.mul_comm]; exact (Nat.div_add_mod j sz).symm, h1, List.getElem?_eq_getElem (by omega)⟩
        refine ⟨A, n, c, (List.range (n * sz)).map u, rfl, hn.symm, by simp, fun hA0 => ?_, hys, fun a ha j w hw => ?_, fun w hw => ?_, fun i y j z w hy hz hw => ?_⟩
        · rcases Nat.eq_zero_or_pos n with h | h
          · exact h
          · rw [hA h] at hA0; cases hA0
        · have hj : j < n * sz := by simpa using (List.getElem?_eq_some_iff.1 hw).1
          simp [hj] at hw
          have hp : 0 < n := by rcases Nat.eq_zero_or_pos n with h | h; (rw [h] at hj; omega); exact h
          obtain ⟨i, j', y, z, rfl, hy, hz⟩ := key j hj
          rw [hA hp] at ha
          cases ha
          have := (hcell i y j' z hy hz).2
          rw [e hp] at this
          rw [this, hw]
        · simp only [List.mem_map, List.mem_range] at hw
          obtain ⟨j, hj, rfl⟩ := hw
          have hp : 0 < n := by rcases Nat.eq_zero_or_pos n with h | h; (rw [h] at hj; omega); exact h
          obtain ⟨i, j', y, z, rfl, hy, hz⟩ := key j hj
          have := hr i y j' z hy hz
          rw [e hp] at this
          exact this.one
        · have hi : i < n := by rw [← hn]; exact (List.getElem?_eq_some_iff.1 hy).1
          have hjl : i * sz + j < n * sz := by simpa using (List.getElem?_eq_some_iff.1 hw).1
          simp [hjl] at hw
          subst hw
          have := hr i y j z hy hz
          rw [e (by omega)] at this
          exact this
  · rename_i j n
    obtain ⟨b, hb, h⟩ := getK_spec.1 h
    split at h
    case h_2 => exact h.elim
    rename_i e0 sz' ys
    simp only [ifK] at h
    split at h
    case h_2 => exact h.elim
    rename_i hsz
    have hszz := Nat.eq_of_beq_eq_true hsz
    refine ⟨ys.take n, h, fun m H v hi hv => ?_⟩
    cases hv with
    | row _ _ _ N c A hρ hn hc =>
      obtain ⟨hp, hxs, flat, ho, hrd⟩ := hi.blk 0 j _ hb _ hρ
      subst hszz
      have hN : N = ys.length := by
        rcases ho.2 with ⟨h1, h2⟩ | ⟨g, cap, cur, h1, _⟩
        · simp only [Value.slice.injEq] at h1; omega
        · simp only [Value.slice.injEq] at h1; exact h1.2.1
      have hfl : flat.length = ys.length * sz' := ho.1
      have hlt : n * sz' ≤ flat.length := by rw [hfl]; exact Nat.mul_le_mul_right _ (by omega)
      have hone : ∀ u ∈ flat, u.oneCell' = true := by
        intro u hu
        obtain ⟨k, hk⟩ := List.mem_iff_getElem?.1 hu
        have hkl : k < ys.length * sz' := by rw [← hfl]; exact (List.getElem?_eq_some_iff.1 hk).1
        have hi2 : k / sz' < ys.length := Nat.div_lt_of_lt_mul (by rw [Nat.mul_comm]; exact hkl)
        obtain ⟨y0, h1⟩ : ∃ y0, ys[k / sz']? = some y0 := ⟨_, List.getElem?_eq_getElem hi2⟩
        have h2 : y0.length = sz' := hxs _ (List.mem_of_getElem? h1)
        exact (hrd (k / sz') _ (k % sz') _ u h1 (List.getElem?_eq_getElem (by rw [h2]; exact Nat.mod_lt _ hp)) (by rw [Nat.mul_comm, Nat.div_add_mod]; exact hk)).one
      refine ⟨A, n, c, flat.take (n * sz'), rfl, by rw [List.length_take]; omega, by rw [List.length_take]; omega, fun hA0 => ?_, fun y hy => hxs y (List.mem_of_mem_take hy), fun a ha k u hu => ?_, fun u hu => hone u (List.mem_of_mem_take hu), fun i y j' z u hy hz hu => ?_⟩
      · subst hA0
        rcases ho.2 with ⟨h1, h2⟩ | ⟨g, cap, cur, h1, _⟩
        · omega
        · cases h1
      · subst ha
        have hk : k < n * sz' := by
          rcases Nat.lt_or_ge k (n * sz') with h1 | h1
          · exact h1
          · rw [List.getElem?_eq_none (by rw [List.length_take]; omega)] at hu; cases hu
        rw [List.getElem?_take_of_lt hk] at hu
        have := ho.cells (g := a.block) rfl k u hu
        rcases ho.2 with ⟨h1, _⟩ | ⟨g, cap, cur, h1, _⟩
        · cases h1
        · simp only [Value.slice.injEq, Option.some.injEq] at h1
          obtain ⟨rfl, _⟩ := h1
          exact this
      · have hin : i < n := by
          rcases Nat.lt_or_ge i n with h1 | h1
          · exact h1
          · rw [List.getElem?_eq_none (by rw [List.length_take]; omega)] at hy; cases hy
        rw [List.getElem?_take_of_lt hin] at hy
        have hk : i * sz' + j' < n * sz' := by
          rcases Nat.lt_or_ge (i * sz' + j') (n * sz') with h1 | h1
          · exact h1
          · rw [List.getElem?_eq_none (by rw [List.length_take]; omega)] at hu; cases hu
        rw [List.getElem?_take_of_lt hk] at hu
        exact hrd i y j' z u hy hz hu
  · exact h.elim

/-- The run of append, onto a row of one's own. -/
theorem run_append_any {P : Program} {w : World} {t ty e : TypeId} {i : TypeInfo} {z : Value} {size bytes : Nat} (ht : P.underlying t = some (.slice e)) (hi : P.info? e = some i) (hz : i.zero = some z)
    (hsize : i.size = size) (hby : i.bytes = bytes) (hzs : z.cells.size = size) (hsz : 0 < size) (hb0 : 0 < bytes) {v : Value} {n : Nat} {xs : List Value} (hown : w.ownsRow 0 e size v n xs)
    {A : Option Addr} {m c : Nat} {news : List Value} (hl : news.length = m * size) (hA : A = none → m = 0) (hnews : ∀ a, A = some a → ∀ (j : Nat) u, news[j]? = some u → w.cell? (a.add j) = some u) (h1 : ∀ u ∈ news, u.oneCell' = true)
    (hbytes : (n + m) * bytes ≤ 140737488355328) :
    ∃ v' w', (Builtin.append_ #[t, t] ty #[v, .slice A m c]).run P w = .ok v' w' ∧ w'.ownsRow 0 e size v' (n + m) (xs ++ news) ∧ w.grownBy w' v.ownBlock ∧ (v'.ownBlock = v.ownBlock ∨ v'.ownBlock = some w.heap.size) := by
  have h63 : n + m ≤ maxLen := by
    unfold maxLen
    have : n + m ≤ (n + m) * bytes := Nat.le_mul_of_pos_right _ hb0
    omega
  cases A with
  | some a =>
    obtain ⟨v', w', h2, h3, h4, _, h5⟩ := run_append_own_at (P := P) w 0 t ty e i z size bytes ht hi hz hsize hby hzs hsz v n xs hown a m c news hl (hnews a rfl) h1 h63 hbytes (Nat.zero_le _)
    exact ⟨v', w', h2, h3, h4, h5⟩
  | none =>
    obtain rfl := hA rfl
    obtain rfl : news = [] := List.eq_nil_of_length_eq_zero (by simpa using hl)
    refine ⟨v, w, ?_, by simpa using hown, ⟨rfl, rfl, rfl, Nat.le_refl _, fun _ _ _ => rfl⟩, .inl rfl⟩
    rcases hown.2 with ⟨rfl, hn⟩ | ⟨g, cap, cur, rfl, _, _, hnc, _⟩
    · simp [Builtin.append_, run_under ht, sizeOf, typeInfo, hi, Builtin.lenOf, Builtin.firstCells]
    · simp [Builtin.append_, run_under ht, sizeOf, typeInfo, hi, Builtin.lenOf, Builtin.firstCells, hnc, storeCells]

theorem ownBlock_blkOf (v : Value) (h : ∃ A n c, v = .slice A n c) : v.ownBlock = blkOf v := by
  obtain ⟨A, n, c, rfl⟩ := h
  cases A <;> rfl
theorem owns_slice {w : World} {base e size n : Nat} {v : Value} {xs : List Value} (h : w.ownsRow base e size v n xs) : ∃ A c, v = .slice A n c ∧ n ≤ c := by
  rcases h.2 with ⟨rfl, rfl⟩ | ⟨g, cap, cur, rfl, _, _, h1, _⟩
  · exact ⟨none, 0, rfl, Nat.le_refl _⟩
  · exact ⟨_, cap, rfl, h1⟩

theorem append_step {C : Cx} (hC : C.Ok) {H : List (List Blk)} {o : Oper} {c : Call} (ho : o.op = .call c) (hcl : c.callee = .builtin .append) {x y : Operand} {t : TypeId} (hx : c.args = #[x, y]) (ht : c.argTypes = #[t, t]) {tm : List PV} {top : List Blk} {p q : PV}
    (hp : ev? tm x = some p) (hq : ev? tm y = some q) {K : PV → List Blk → Prop} (h : appendK C top t p q K) : ∃ pv top', K pv top' ∧ top.length ≤ top'.length ∧ ActStep C H o tm top pv top' := by
  have mx : x ∈ o.op.operands.toList := by rw [ho]; simp [Op.operands, Call.operands, hcl, hx]
  have my : y ∈ o.op.operands.toList := by rw [ho]; simp [Op.operands, Call.operands, hcl, hx]
  obtain ⟨r, hr, ht_, h_⟩ := lookK_spec h
  clear h
  subst ht_
  obtain ⟨i1, z1, d, hi1, hs1, hb1, hz1, hzz1, hd, hty⟩ := row_info hC hr
  split at h_
  case h_2 => exact h_.elim
  rename_i e hty0
  obtain ⟨r', hr', ht_, h⟩ := lookK_spec h_
  clear h_
  subst ht_
  obtain ⟨i2, z2, d2, hi2, hs2, hb2, hz2, hzz2, hd2, hty2⟩ := row_info hC hr'
  rw [hty0] at hty
  obtain ⟨e, rfl⟩ : ∃ e, d = .slice e := by cases d <;> simp [tyOf] at hty <;> exact ⟨_, rfl⟩
  simp only [tyOf, Ty.slice.injEq] at hty
  subst hty
  simp only [ifK] at h
  split at h
  case h_2 => exact h.elim
  rename_i hpos
  have hpos : 0 < r'.size := by simpa [Nat.blt_eq] using hpos
  split at h
  case h_2 => exact h.elim
  rename_i hbp
  have hbp : 0 < r'.bytes := by simpa [Nat.blt_eq] using hbp
  rw [lenK_spec] at h
  split at h
  case h_2 => exact h.elim
  rename_i hzl
  have hzl := Nat.eq_of_beq_eq_true hzl
  have hzs : z2.cells.size = r'.size := by rw [← hzl, ← hzz2]; simp
  obtain ⟨ys, h, hnews⟩ := newsK_spec hpos h
  have ex : ∀ (a : Act) (w w' : World) (v : Value), (Builtin.append_ #[r.t, r.t] o.type #[a.eval x, a.eval y]).run C.P w = .ok v w' → (execOp a.eval o).run C.P w = .ok (.value v) w' := fun a w w' v hv => by
    simp [execOp, ho, resolve, hcl, hx, ht, invoke, builtin, hv]
  -- what a new row comes to, the elder one (if any) being dead
  have fin : ∀ (m : M) (top1 : List Blk) (xs : List (List DV)) (flat : List Value) (s : Value) (v' : Value) (w' : World) (news : List Value), Inv m top H → (∀ j, top.length ≤ j → m.ρ 0 j = none) → top1.length = top.length →
      (∀ l i b, getB top1 H l i = some b → b.live = true → getB top H l i = some b ∧ ∀ v, m.ρ l i = some v → ∀ k, blkOf v = some k → s.ownBlock ≠ some k) →
      (∀ k, s.ownBlock = some k → Mine m top k) → w'.ownsRow 0 r'.t r'.size v' (xs.length + ys.length) (flat ++ news) → flat.length = xs.length * r'.size → m.w.grownBy w' s.ownBlock → (v'.ownBlock = s.ownBlock ∨ v'.ownBlock = some m.w.heap.size) →
      (∀ x ∈ xs, x.length = r'.size) → (∀ y ∈ ys, y.length = r'.size) → (∀ (i : Nat) x (j : Nat) y u, xs[i]? = some x → x[j]? = some y → flat[i * r'.size + j]? = some u → RD m.w m.ok y u) →
      (∀ (i : Nat) y (j : Nat) z u, ys[i]? = some y → y[j]? = some z → news[i * r'.size + j]? = some u → RD m.w m.ok z u) →
      ∀ (next : Act → World → Prop) (Q : Exit → Act → World → Prop) (a : Act), (execOp a.eval o).run C.P m.w = .ok (.value v') w' →
        (∀ v m', Turn m m' top → (∀ l j, ¬ (l = 0 ∧ top.length ≤ j ∧ j < top.length + 1) → m'.ρ l j = m.ρ l j) →
          (∀ j u k, top.length ≤ j → j < top.length + 1 → m'.ρ 0 j = some u → blkOf u = some k → m.w.heap.size ≤ k ∨ Mine m top k) → Inv m' (top1 ++ [.row r'.t r'.size (xs ++ ys)]) H → RP m' (.row 0 top.length (xs.length + ys.length)) v → next (a.put o.dst v) m'.w) →
        o.wp C.P a m.w next Q := by
    intro m top1 xs flat s v' w' news hinv hfree hl1 hold hmine hown hflat hgrown hat hxl hyl hrx hry next Q a hrun hnext
    have hfr : m.ρ 0 top.length = none := hfree _ (Nat.le_refl _)
    obtain ⟨A', c', rfl, hc'⟩ := owns_slice hown
    have hob : (Value.slice A' (xs.length + ys.length) c').ownBlock = blkOf (.slice A' (xs.length + ys.length) c') := ownBlock_blkOf _ ⟨_, _, _, rfl⟩
    let m' : M := ⟨w', fun l i => if l = 0 ∧ i = top.length then some (.slice A' (xs.length + ys.length) c') else m.ρ l i, fun k => m.U k ∨ blkOf (.slice A' (xs.length + ys.length) c') = some k⟩
    have hblk : ∀ k, blkOf (.slice A' (xs.length + ys.length) c') = some k → s.ownBlock = some k ∨ k = m.w.heap.size := by
      intro k hk
      rcases hat with h | h
      · rw [hob, hk] at h; exact .inl h.symm
      · rw [hob, hk] at h; cases h; exact .inr rfl
    have hsU : ∀ k, s.ownBlock = some k → m.U k ∧ k < m.w.heap.size := by
      intro k hk
      obtain ⟨j, b, v, h1, h2, h3, h4⟩ := hmine k hk
      have := hinv.own 0 j b v k h1 h2 h3 h4
      exact ⟨this, hinv.lt k this⟩
    have hT : Turn m m' top := by
      refine ⟨hgrown.os, hgrown.tape, hgrown.output, hgrown.size, fun k hk hn => hgrown.block k hk (fun e => hn (hmine k e.symm)), fun l j v hv => ?_, fun k hk => ?_⟩
      · show (if l = 0 ∧ j = top.length then _ else m.ρ l j) = some v
        rw [if_neg]
        · exact hv
        · rintro ⟨rfl, rfl⟩; rw [hfr] at hv; cases hv
      · show m.U k ∨ _ ↔ m.U k
        refine ⟨fun h => ?_, .inl⟩
        rcases h with h | h
        · exact h
        · rcases hblk k h with h | h
          · exact (hsU k h).1
          · omega
    have hK := hT.keep hinv
    have hρo : ∀ l j, ¬ (l = 0 ∧ j = top.length) → m'.ρ l j = m.ρ l j := fun l j hn => by show (if l = 0 ∧ j = top.length then _ else m.ρ l j) = _; rw [if_neg hn]
    have hρn : m'.ρ 0 top.length = some (.slice A' (xs.length + ys.length) c') := by show (if 0 = 0 ∧ top.length = top.length then _ else _) = _; rw [if_pos ⟨rfl, rfl⟩]
    have get : ∀ l j b, getB (top1 ++ [.row r'.t r'.size (xs ++ ys)]) H l j = some b → (l = 0 ∧ j = top.length ∧ b = .row r'.t r'.size (xs ++ ys)) ∨ (¬ (l = 0 ∧ j = top.length) ∧ getB top1 H l j = some b) := by
      intro l j b hb
      by_cases hn : l = 0 ∧ j = top.length
      · obtain ⟨rfl, rfl⟩ := hn
        rw [← hl1, getB_snoc_new] at hb
        cases hb
        exact .inl ⟨rfl, rfl, rfl⟩
      · rw [getB_snoc_old (by rw [hl1]; exact hn)] at hb
        exact .inr ⟨hn, hb⟩
    unfold Oper.wp
    rw [hrun]
    refine hnext _ m' hT (fun l j hn => hρo l j (fun e => hn ⟨e.1, by omega, by omega⟩)) (fun j u k h1 h2 hu hk => ?_) ⟨fun l j b hb => ?_, fun l j b l' j' b' v1 v2 k hb hlb hb' hlb' hv1 hv2 hk1 hk2 => ?_, fun l j b v k hb hlb hv hk => ?_, fun k hk => ?_⟩ (.row _ _ _ _ _ _ hρn (Nat.le_refl _) hc')
    · obtain rfl : j = top.length := by omega
      rw [hρn] at hu
      cases hu
      rcases hblk k hk with h | h
      · exact .inr (hmine k h)
      · exact .inl (by omega)
    · rcases get l j b hb with ⟨rfl, rfl, rfl⟩ | ⟨hn, hb1⟩
      · intro v hv
        rw [hρn] at hv
        cases hv
        refine ⟨hpos, fun x hx => ?_, flat ++ news, by rw [List.length_append]; exact hown, fun i x j' y' u hx hy' hu => ?_⟩
        · rcases List.mem_append.1 hx with h | h
          · exact hxl x h
          · exact hyl x h
        · rcases Nat.lt_or_ge i xs.length with hi | hi
          · rw [List.getElem?_append_left hi] at hx
            have hjl : j' < r'.size := by rw [← hxl x (List.mem_of_getElem? hx)]; exact (List.getElem?_eq_some_iff.1 hy').1
            have : i * r'.size + r'.size ≤ xs.length * r'.size := by rw [← Nat.succ_mul]; exact Nat.mul_le_mul_right _ hi
            rw [List.getElem?_append_left (by rw [hflat]; omega)] at hu
            exact (hrx i x j' y' u hx hy' hu).keep hK
          · rw [List.getElem?_append_right hi] at hx
            have : xs.length * r'.size ≤ i * r'.size := Nat.mul_le_mul_right _ hi
            rw [List.getElem?_append_right (by rw [hflat]; omega), hflat] at hu
            refine (hry (i - xs.length) x j' y' u hx hy' ?_).keep hK
            rw [Nat.sub_mul, show i * r'.size - xs.length * r'.size + j' = i * r'.size + j' - xs.length * r'.size by omega]
            exact hu
      · cases hlb : b.live with
        | false => cases b <;> simp [Blk.live] at hlb; trivial
        | true =>
          obtain ⟨hb2, hns⟩ := hold l j b hb1 hlb
          refine (hinv.blk l j b hb2).keep hK (hρo l j hn) (fun v k hl hv hk => hgrown.block k (hinv.lt k (hinv.own l j b v k hb2 hl hv hk)) (fun e => hns v hv k hk e.symm))
    · rcases get l j b hb with ⟨rfl, rfl, rfl⟩ | ⟨hn, hb1⟩ <;> rcases get l' j' b' hb' with ⟨rfl, rfl, rfl⟩ | ⟨hn', hb1'⟩
      · exact ⟨rfl, rfl⟩
      · exfalso
        rw [hρn] at hv1; cases hv1
        rw [hρo l' j' hn'] at hv2
        obtain ⟨hb2, hns⟩ := hold l' j' b' hb1' hlb'
        rcases hblk k hk1 with h | h
        · exact hns v2 hv2 k hk2 h
        · have := hinv.lt k (hinv.own l' j' b' v2 k hb2 hlb' hv2 hk2); omega
      · exfalso
        rw [hρn] at hv2; cases hv2
        rw [hρo l j hn] at hv1
        obtain ⟨hb2, hns⟩ := hold l j b hb1 hlb
        rcases hblk k hk2 with h | h
        · exact hns v1 hv1 k hk1 h
        · have := hinv.lt k (hinv.own l j b v1 k hb2 hlb hv1 hk1); omega
      · rw [hρo l j hn] at hv1; rw [hρo l' j' hn'] at hv2
        exact hinv.inj l j b l' j' b' v1 v2 k (hold l j b hb1 hlb).1 hlb (hold l' j' b' hb1' hlb').1 hlb' hv1 hv2 hk1 hk2
    · rcases get l j b hb with ⟨rfl, rfl, rfl⟩ | ⟨hn, hb1⟩
      · rw [hρn] at hv; cases hv; exact .inr hk
      · rw [hρo l j hn] at hv
        exact .inl (hinv.own l j b v k (hold l j b hb1 hlb).1 hlb hv hk)
    · rcases hk with hk | hk
      · exact Nat.lt_of_lt_of_le (hinv.lt k hk) hgrown.size
      · rcases hown.2 with ⟨h1, _⟩ | ⟨g, cap, cur, h1, _, hg, _⟩
        · rw [h1] at hk; cases hk
        · rw [h1] at hk; cases hk
          exact (Array.getElem?_eq_some_iff.1 hg).1
  split at h
  · -- onto nil
    obtain ⟨hby, h⟩ := h
    unfold newK at h
    rw [lenK_spec, snocK_spec] at h
    refine ⟨_, _, h, by simp, fun m a hinv he hfree next Q hnext => ?_⟩
    have h1 := ev_rel he mx hp
    have h2 := ev_rel he my hq
    generalize hv : a.eval x = v at h1
    cases h1
    obtain ⟨A, n, c0, news, hy, hn, hnl, hA, hyl, hcell, hone, hrd⟩ := hnews m H _ hinv h2
    obtain ⟨v', w', hrun, hown, hgr, hat⟩ := run_append_any (P := C.P) (w := m.w) (t := r.t) (ty := o.type) hd hi2 hz2 hs2 hb2 hzs hpos hbp (World.ownsRow_nil m.w 0 r'.t r'.size) (A := A) (m := n) (c := c0) (news := news) hnl hA hcell hone (by rw [hn, Nat.zero_add]; exact hby)
    have := fin m top [] [] (.slice none 0 0) v' w' news hinv hfree rfl (fun l i b hb hl => ⟨hb, (fun v _ k _ e => by cases e)⟩) (fun k hk => (by cases hk)) (by rw [← hn]; simpa using hown) (by simp) hgr hat (by simp) hyl (fun i x j y u hx => by simp at hx) hrd next Q a (ex a _ _ _ (by rw [hv, hy]; exact hrun))
    refine this fun v m' hT hρ hfr hI hR => ?_
    simp only [List.length_nil, Nat.zero_add, List.nil_append] at hI hR
    exact hnext v m' hT (fun l j hn => hρ l j (by simpa using hn)) (fun j u k h1 h2 => hfr j u k h1 (by simpa using h2)) hI hR
  · rename_i i0 n0 h__
    clear h__
    obtain ⟨b, hb, h⟩ := getK_spec.1 h
    split at h
    case h_2 => exact h.elim
    rename_i e' sz xs
    split at h
    case h_2 => exact h.elim
    rename_i he'
    have he' := Nat.eq_of_beq_eq_true he'
    split at h
    case h_2 => exact h.elim
    rename_i hsz'
    have hsz' := Nat.eq_of_beq_eq_true hsz'
    obtain ⟨hn0, hby, h⟩ := h
    obtain ⟨hlt, h⟩ := setK_spec.1 h
    unfold newK at h
    rw [lenK_spec, snocK_spec] at h
    refine ⟨_, _, h, by simp, fun m a hinv he hfree next Q hnext => ?_⟩
    have h1 := ev_rel he mx hp
    have h2 := ev_rel he my hq
    generalize hv : a.eval x = v at h1
    cases h1 with
    | row _ _ _ N cN A0 hρ hn hc =>
      obtain ⟨hp0, hxs, flat, ho', hrx⟩ := hinv.blk 0 i0 _ hb _ hρ
      have hN : N = xs.length := by
        obtain ⟨A, c, h1, _⟩ := owns_slice ho'
        simp only [Value.slice.injEq] at h1; exact h1.2.1
      subst hN
      subst hn0
      obtain ⟨A, n, c0, news, hy, hn, hnl, hA, hyl, hcell, hone, hrd⟩ := hnews m H _ hinv h2
      rw [he', hsz'] at ho'
      obtain ⟨v', w', hrun, hown, hgr, hat⟩ := run_append_any (P := C.P) (w := m.w) (t := r.t) (ty := o.type) hd hi2 hz2 hs2 hb2 hzs hpos hbp ho' (A := A) (m := n) (c := c0) (news := news) hnl hA hcell hone (by rw [hn]; exact hby)
      have hob : (Value.slice A0 xs.length cN).ownBlock = blkOf (.slice A0 xs.length cN) := ownBlock_blkOf _ ⟨_, _, _, rfl⟩
      have hset : ∀ l i b, getB (top.set i0 .dead) H l i = some b → b.live = true → ¬ (l = 0 ∧ i = i0) ∧ getB top H l i = some b := by
        intro l i b hb' hl'
        by_cases hh : l = 0 ∧ i = i0
        · obtain ⟨rfl, rfl⟩ := hh
          simp [getB, hlt] at hb'
          subst hb'
          cases hl'
        · rw [getB_set_old hh] at hb'
          exact ⟨hh, hb'⟩
      have := fin m (top.set i0 .dead) xs flat (.slice A0 xs.length cN) v' w' news hinv hfree (by simp)
        (fun l i b hb' hl' => by
          obtain ⟨hne, hb2⟩ := hset l i b hb' hl'
          refine ⟨hb2, fun v hv k hk e => hne ?_⟩
          rw [hob] at e
          exact hinv.inj l i b 0 i0 _ v _ k hb2 hl' hb rfl hv hρ hk e)
        (fun k hk => by rw [hob] at hk; exact ⟨i0, _, _, hb, rfl, hρ, hk⟩) (by rw [← hn]; exact hown) ho'.1 hgr hat (fun x hx => by rw [← hsz']; exact hxs x hx) hyl (fun i x j y u hx hy hu => hrx i x j y u hx hy (by rw [hsz']; exact hu)) hrd next Q a (ex a _ _ _ (by rw [hv, hy]; exact hrun))
      refine this fun v m' hT hρ' hfr hI hR => ?_
      exact hnext v m' hT (fun l j hn => hρ' l j (by simpa using hn)) (fun j u k h1 h2 => hfr j u k h1 (by simpa using h2)) (by rw [hsz']; exact hI) (by simpa using hR)
  · exact h.elim
end Go.Proofs.Ve
