/- What the value machine says of what turns memory is so: stores. -/
import Derived.Test.YtpmhiiembbfbeaaV12
set_option linter.all false
namespace Go.Proofs.Ve
open Go

structure Turn (m m' : M) (top : List Blk) : Prop where
  os : m'.w.os = m.w.os
  tape : m'.w.tape = m.w.tape
  output : m'.w.output = m.w.output
  size : m.w.heap.size ≤ m'.w.heap.size
  heap : ∀ k, k < m.w.heap.size → ¬ Mine m top k → m'.w.heap[k]? = m.w.heap[k]?
  ρ : ∀ l i v, m.ρ l i = some v → m'.ρ l i = some v
  U : ∀ k, k < m.w.heap.size → (m'.U k ↔ m.U k)
theorem Turn.keep {m m' : M} {top : List Blk} {H : List (List Blk)} (h : Turn m m' top) (hi : Inv m top H) : Keep m m' :=
  ⟨h.ρ, h.size, fun k hk => ⟨fun hu => hk.2 ((h.U k hk.1).1 hu), h.heap k hk.1 (by
    rintro ⟨i, b, v, h1, h2, h3, h4⟩
    exact hk.2 (hi.own 0 i b v k h1 h2 h3 h4))⟩⟩
theorem Grow.turn {m m' : M} (h : Grow m m') (top : List Blk) : Turn m m' top := ⟨h.os, h.tape, h.output, h.size, fun k hk _ => h.heap k hk, h.ρ, h.U⟩

/-- What an operation that may turn memory comes to. -/
def ActStep (C : Cx) (H : List (List Blk)) (o : Oper) (tm : List PV) (top : List Blk) (pv : PV) (top' : List Blk) : Prop :=
  ∀ (m : M) (a : Act), Inv m top H → EvR m a tm o.op.operands.toList → (∀ j, top.length ≤ j → m.ρ 0 j = none) →
    ∀ (next : Act → World → Prop) (Q : Exit → Act → World → Prop),
      (∀ v m', Turn m m' top → (∀ l j, ¬ (l = 0 ∧ top.length ≤ j ∧ j < top'.length) → m'.ρ l j = m.ρ l j) →
        (∀ j u k, top.length ≤ j → j < top'.length → m'.ρ 0 j = some u → blkOf u = some k → m.w.heap.size ≤ k ∨ Mine m top k) → Inv m' top' H → RP m' pv v → next (a.put o.dst v) m'.w) →
      o.wp C.P a m.w next Q
theorem OpStep.act {C : Cx} {H : List (List Blk)} {o : Oper} {tm : List PV} {top : List Blk} {pv : PV} {top' : List Blk} (h : OpStep C H o tm top pv top') : ActStep C H o tm top pv top' :=
  fun m a hi he hf next Q hn => h m a hi he (fun j h1 _ => hf j h1) next Q fun v m' hg hρ hfr hi' hr => hn v m' (hg.turn top) hρ (fun j u k h1 h2 h3 h4 => .inl (hfr j u k h1 h2 h3 h4)) hi' hr

theorem getB_set_old {top : List Blk} {b : Blk} {H : List (List Blk)} {i0 l i : Nat} (h : ¬ (l = 0 ∧ i = i0)) : getB (top.set i0 b) H l i = getB top H l i := by
  cases l with
  | zero =>
    simp only [getB]
    rw [List.getElem?_set_ne (fun e => h ⟨rfl, e.symm⟩)]
  | succ l => rfl
/-- A block of the frame's is written, its name stays. -/
theorem inv_set {m : M} {top : List Blk} {H : List (List Blk)} (hi : Inv m top H) {i0 g : Nat} {b0 b : Blk} {v0 : Value} (hb0 : top[i0]? = some b0) (hl0 : b0.live = true) (hρ : m.ρ 0 i0 = some v0) (hg : blkOf v0 = some g) (hlive : b.live = true)
    {w' : World} (hos : w'.os = m.w.os) (htape : w'.tape = m.w.tape) (hout : w'.output = m.w.output) (hsz : w'.heap.size = m.w.heap.size) (hheap : ∀ k, k ≠ g → w'.heap[k]? = m.w.heap[k]?)
    (hb : Keep m ⟨w', m.ρ, m.U⟩ → BlkOk ⟨w', m.ρ, m.U⟩ 0 i0 b) : Turn m ⟨w', m.ρ, m.U⟩ top ∧ Inv ⟨w', m.ρ, m.U⟩ (top.set i0 b) H := by
  have hT : Turn m ⟨w', m.ρ, m.U⟩ top := ⟨hos, htape, hout, Nat.le_of_eq hsz.symm, fun k _ hk => hheap k (by
    rintro rfl
    exact hk ⟨i0, b0, v0, hb0, hl0, hρ, hg⟩), fun _ _ _ h => h, fun _ _ => Iff.rfl⟩
  have hK := hT.keep hi
  have hlt : i0 < top.length := (List.getElem?_eq_some_iff.1 hb0).1
  have get : ∀ l i b', getB (top.set i0 b) H l i = some b' → (l = 0 ∧ i = i0 ∧ b' = b) ∨ (¬ (l = 0 ∧ i = i0) ∧ getB top H l i = some b') := by
    intro l i b' hb'
    by_cases h : l = 0 ∧ i = i0
    · obtain ⟨rfl, rfl⟩ := h
      simp [getB, hlt] at hb'
      exact .inl ⟨rfl, rfl, hb'.symm⟩
    · rw [getB_set_old h] at hb'
      exact .inr ⟨h, hb'⟩
  have old : ∀ l i b', getB (top.set i0 b) H l i = some b' → b'.live = true → ∃ b'', getB top H l i = some b'' ∧ b''.live = true := by
    intro l i b' hb' hl'
    rcases get l i b' hb' with ⟨rfl, rfl, rfl⟩ | ⟨_, h⟩
    · exact ⟨b0, hb0, hl0⟩
    · exact ⟨b', h, hl'⟩
  refine ⟨hT, fun l i b' hb' => ?_, fun l i b1 l' i' b2 v1 v2 k h1 hl1 h2 hl2 hv1 hv2 hk1 hk2 => ?_, fun l i b1 v1 k h1 hl1 hv1 hk => ?_, fun k hk => by rw [show (⟨w', m.ρ, m.U⟩ : M).w.heap.size = m.w.heap.size from hsz]; exact hi.lt k hk⟩
  · rcases get l i b' hb' with ⟨rfl, rfl, rfl⟩ | ⟨hn, h⟩
    · exact hb hK
    · refine (hi.blk l i b' h).keep hK rfl (fun v k hl hv hk => hheap k ?_)
      rintro rfl
      exact hn (hi.inj l i b' 0 i0 b0 v v0 k h hl hb0 hl0 hv hρ hk hg)
  · obtain ⟨c1, hc1, hd1⟩ := old l i b1 h1 hl1
    obtain ⟨c2, hc2, hd2⟩ := old l' i' b2 h2 hl2
    exact hi.inj l i c1 l' i' c2 v1 v2 k hc1 hd1 hc2 hd2 hv1 hv2 hk1 hk2
  · obtain ⟨c1, hc1, hd1⟩ := old l i b1 h1 hl1
    exact hi.own l i c1 v1 k hc1 hd1 hv1 hk

theorem allCellK_spec : ∀ {cs : List PV} {K : Prop}, allCellK cs K → (∀ q ∈ cs, q.cell = true) ∧ K
  | [], K, h => ⟨fun q hq => (by cases hq), h⟩
  | c :: cs, K, h => by
    rw [allCellK_cons] at h
    split at h
    · rename_i hc
      obtain ⟨h1, h2⟩ := allCellK_spec h
      exact ⟨fun q hq => by cases hq with | head => exact hc | tail _ hq => exact h1 q hq, h2⟩
    · exact h.elim
theorem seg_get {α : Type} {l ys : List α} {o : Nat} (h : o + ys.length ≤ l.length) (k : Nat) : (l.take o ++ ys ++ l.drop (o + ys.length))[k]? = if o ≤ k ∧ k < o + ys.length then ys[k - o]? else l[k]? := by
  by_cases hk : o ≤ k ∧ k < o + ys.length
  · rw [if_pos hk, List.append_assoc, List.getElem?_append_right (by rw [List.length_take]; omega), List.length_take, Nat.min_eq_left (by omega), List.getElem?_append_left (by omega)]
  · rw [if_neg hk]
    rcases Nat.lt_or_ge k o with h1 | h1
    · rw [List.append_assoc, List.getElem?_append_left (by rw [List.length_take]; omega), List.getElem?_take_of_lt h1]
    · rw [List.getElem?_append_right (by simp; omega)]
      simp only [List.length_append, List.length_take, List.getElem?_drop]
      rw [Nat.min_eq_left (by omega), show o + ys.length + (k - (o + ys.length)) = k by omega]

theorem store_step {C : Cx} (hC : C.Ok) {H : List (List Blk)} {o : Oper} {t : Nat} {x y : Operand} (ho : o.op = .store t x y) {tm : List PV} {top : List Blk} {p q : PV} (hp : ev? tm x = some p) (hq : ev? tm y = some q) {K : List Blk → Prop}
    (h : storeK C top t p q K) : ∃ top', K top' ∧ top'.length = top.length ∧ ActStep C H o tm top .any top' := by
  have mx : x ∈ o.op.operands.toList := by simp [ho, Op.operands]
  have my : y ∈ o.op.operands.toList := by simp [ho, Op.operands]
  obtain ⟨r, hr, ht_, h_⟩ := lookK_spec h
  clear h
  subst ht_
  obtain ⟨ii, z, d, hii, hs, hb, hz, hzz, hd, hty⟩ := row_info hC hr
  obtain ⟨cs, h, hcell, hcs⟩ := cells_rel h_
  obtain ⟨_, h⟩ := allCellK_spec h
  rw [lenK_spec] at h
  simp only [ifK] at h
  split at h
  case h_2 => exact h.elim
  rename_i hn
  have hn := Nat.eq_of_beq_eq_true hn
  -- the run
  have run : ∀ (m : M) (a : Act) (g o' : Nat) (cur : Array Value) (e : Nat), a.eval x = .pointer (some ⟨g, o', none⟩) → RP m q (a.eval y) → m.w.heap[g]? = some (.cells cur e (0, 0)) → o' + r.size ≤ cur.size →
      (execOp a.eval o).run C.P m.w = .ok .skip (m.w.setRow g (cur.toList.take o' ++ (a.eval y).cells.toList ++ cur.toList.drop (o' + (a.eval y).cells.toList.length)).toArray) := by
    intro m a g o' cur e hv hrq hg hle
    obtain ⟨hsz, hrel⟩ := hcs m _ hrq
    have h1 : ∀ u ∈ (a.eval y).cells.toList, u.oneCell' = true := by
      intro u hu
      obtain ⟨j, hj⟩ := List.mem_iff_getElem?.1 hu
      have hjl : j < cs.length := by rw [← hsz]; simpa using (List.getElem?_eq_some_iff.1 hj).1
      exact (hrel j _ u (List.getElem?_eq_getElem hjl) (by simpa using hj)).one (hcell _ (List.getElem_mem _))
    have := run_storeCells_at (P := C.P) g o' e (a.eval y).cells.toList 0 cur m.w hg (by simp [hsz]; omega) h1
    simp only [execOp, ho, Instr.storeAt, Instr.sureAddr, hv, storeVar, Sem.run_bind, Sem.run_pure, Result.andThen_ok, run_size hii, hs]
    rw [if_neg (by omega)]
    simp only [this, Result.andThen_ok, Nat.add_zero]
  cases p with
  | ptr l i o' =>
    cases l with
    | succ l => exact h.elim
    | zero =>
      obtain ⟨b, hb0, h⟩ := getK_spec.1 h
      cases b with
      | box bs =>
        obtain ⟨hle, h⟩ := putK_spec.1 h
        obtain ⟨hlt, h⟩ := setK_spec.1 h
        refine ⟨_, h, by simp, fun m a hi he hf next Q hnext => ?_⟩
        have hpx := ev_rel he mx hp
        have hqy := ev_rel he my hq
        generalize hv : a.eval x = v at hpx
        cases hpx with
        | ptr _ _ _ g hρ =>
          obtain ⟨g', vs, e, hg', hg, hs2, hrel0⟩ := hi.blk 0 i _ hb0 _ hρ
          cases hg'
          obtain ⟨hsz, hrel⟩ := hcs m _ hqy
          have hr0 := run m a g o' vs e hv hqy hg (by omega)
          have hcl : (a.eval y).cells.toList.length = cs.length := by rw [Array.length_toList]; exact hsz
          have hvl : vs.toList.length = bs.length := by rw [Array.length_toList]; exact hs2
          unfold Oper.wp
          rw [hr0]
          have hset := inv_set hi hb0 rfl hρ rfl (b := .box (bs.take o' ++ cs ++ bs.drop (o' + cs.length))) rfl
            (w' := m.w.setRow g (vs.toList.take o' ++ (a.eval y).cells.toList ++ vs.toList.drop (o' + (a.eval y).cells.toList.length)).toArray) rfl rfl rfl (by simp) (fun k hk => setRow_other _ _ _ _ hk) (fun hK => by
              intro v' hv'
              rw [show (⟨_, m.ρ, m.U⟩ : M).ρ 0 i = m.ρ 0 i from rfl, hρ] at hv'
              cases hv'
              refine ⟨g, _, e, rfl, setRow_heap _ _ _ _ _ _ hg, ?_, fun j p u hp hu => ?_⟩
              · simp [hsz]; omega
              · rw [seg_get hle] at hp
                simp only [List.getElem?_toArray] at hu
                rw [seg_get (by rw [hcl, hvl]; exact hle), hcl] at hu
                split at hp
                · rename_i hjj
                  rw [if_pos hjj] at hu
                  exact (hrel _ p u hp (by simpa using hu)).keep hK
                · rename_i hjj
                  rw [if_neg hjj] at hu
                  exact (hrel0 j p u hp (by simpa using hu)).keep (hK.up 0))
          exact hnext _ _ hset.1 (fun _ _ _ => rfl) (fun j u k h1 h2 => by simp at h2; omega) hset.2 (.any _)
      | dead => exact h.elim
      | row e sz xs => exact h.elim
  | rptr l i sz e j =>
    cases l with
    | succ l => exact h.elim
    | zero =>
      obtain ⟨b, hb0, h⟩ := getK_spec.1 h
      cases b with
      | row t' sz' xs =>
        simp only at h
        split at h
        case h_2 => exact h.elim
        rename_i hszz
        have h9 := h
        clear h
        obtain rfl := Nat.eq_of_beq_eq_true hszz
        obtain ⟨ds, h9, hdl, hds⟩ := dvsK_spec h9
        obtain ⟨x0, hx0, h9⟩ := h9
        obtain ⟨hle, h9⟩ := putK_spec.1 h9
        obtain ⟨hlt, h9⟩ := setK_spec.1 h9
        refine ⟨_, h9, by simp, fun m a hi he hf next Q hnext => ?_⟩
        have hpx := ev_rel he mx hp
        have hqy := ev_rel he my hq
        generalize hv : a.eval x = v at hpx
        cases hpx with
        | rptr _ _ _ _ _ g N c hρ =>
          obtain ⟨hp0, hxs, flat, hown, hrel0⟩ := hi.blk 0 i _ hb0 _ hρ
          obtain ⟨hsz, hrel⟩ := hcs m _ hqy
          have hcl : (a.eval y).cells.toList.length = cs.length := by rw [Array.length_toList]; exact hsz
          have hel : e < xs.length := (List.getElem?_eq_some_iff.1 hx0).1
          have hxl : x0.length = sz' := hxs x0 (List.mem_of_getElem? hx0)
          obtain ⟨hfl, hform⟩ := hown
          rcases hform with ⟨h1, _⟩ | ⟨g', cap, cur, h1, hbase, hg, hcap, hmax, hcur, htake⟩
          · cases h1
          · simp only [Value.slice.injEq, Option.some.injEq, Addr.mk.injEq] at h1
            obtain ⟨⟨rfl, _⟩, rfl, rfl⟩ := h1
            have hee : e * sz' + sz' ≤ xs.length * sz' := by rw [← Nat.succ_mul]; exact Nat.mul_le_mul_right _ hel
            have hcc : xs.length * sz' ≤ c * sz' := Nat.mul_le_mul_right _ hcap
            have hcurl : cur.toList.length = c * sz' := by rw [Array.length_toList]; exact hcur
            have hr0 := run m a g (e * sz' + j) cur t' hv hqy hg (by omega)
            unfold Oper.wp
            rw [hr0]
            have hset := inv_set hi hb0 rfl hρ rfl (b := .row t' sz' (xs.set e (x0.take j ++ ds ++ x0.drop (j + ds.length)))) rfl
              (w' := m.w.setRow g (cur.toList.take (e * sz' + j) ++ (a.eval y).cells.toList ++ cur.toList.drop (e * sz' + j + (a.eval y).cells.toList.length)).toArray) rfl rfl rfl (by simp) (fun k hk => setRow_other _ _ _ _ hk) (fun hK => by
                intro v' hv'
                rw [show (⟨_, m.ρ, m.U⟩ : M).ρ 0 i = m.ρ 0 i from rfl, hρ] at hv'
                cases hv'
                refine ⟨hp0, fun x1 hx1 => ?_, (cur.toList.take (e * sz' + j) ++ (a.eval y).cells.toList ++ cur.toList.drop (e * sz' + j + (a.eval y).cells.toList.length)).take (xs.length * sz'), ⟨?_, .inr ⟨g, c, _, by rw [List.length_set], Nat.zero_le _, setRow_heap _ _ _ _ _ _ hg, by simpa using hcap, hmax, ?_, ?_⟩⟩, fun i1 x1 j1 y1 u1 hx1 hy1 hu1 => ?_⟩
                · rcases List.mem_or_eq_of_mem_set hx1 with h2 | h2
                  · exact hxs x1 h2
                  · rw [h2]; simp; omega
                · rw [List.length_take]; simp [hsz]; omega
                · simp [hsz]; omega
                · simp
                · have hi1 : i1 < xs.length := by simpa using (List.getElem?_eq_some_iff.1 hx1).1
                  have hx1l : x1.length = sz' := by
                    rcases List.mem_or_eq_of_mem_set (List.mem_of_getElem? hx1) with h2 | h2
                    · exact hxs x1 h2
                    · rw [h2]; simp; omega
                  have hj1 : j1 < sz' := by rw [← hx1l]; exact (List.getElem?_eq_some_iff.1 hy1).1
                  have hpos : i1 * sz' + j1 < xs.length * sz' := by
                    have : i1 * sz' + sz' ≤ xs.length * sz' := by rw [← Nat.succ_mul]; exact Nat.mul_le_mul_right _ hi1
                    omega
                  rw [List.getElem?_take_of_lt hpos, seg_get (by rw [hcl, hcurl]; omega), hcl] at hu1
                  have hfe : ∀ k, k < xs.length * sz' → flat[k]? = cur[k]? := fun k hk => by rw [← htake, List.getElem?_take_of_lt hk]; simp
                  by_cases hie : i1 = e
                  · subst hie
                    have hx1' : x1 = x0.take j ++ ds ++ x0.drop (j + ds.length) := by
                      rw [List.getElem?_set_self hi1] at hx1; cases hx1; rfl
                    rw [hx1', seg_get hle] at hy1
                    by_cases hjj : j ≤ j1 ∧ j1 < j + ds.length
                    · rw [if_pos hjj] at hy1
                      rw [if_pos (by omega), show i1 * sz' + j1 - (i1 * sz' + j) = j1 - j by omega] at hu1
                      have hu2 : ((a.eval y).cells[j1 - j]?).getD undef = u1 := by
                        rw [show (a.eval y).cells[j1 - j]? = some u1 by simpa using hu1]; rfl
                      have := hds m (fun k => ((a.eval y).cells[k]?).getD undef) (fun k p' hp' => by
                        have hkl : k < cs.length := (List.getElem?_eq_some_iff.1 hp').1
                        have hk2 : (a.eval y).cells[k]? = some ((a.eval y).cells[k]'(by omega)) := Array.getElem?_eq_getElem (by omega)
                        rw [hk2]
                        exact hrel k p' _ hp' hk2) (j1 - j) y1 hy1
                      simp only [hu2] at this
                      exact this.keep hK
                    · rw [if_neg hjj] at hy1
                      rw [if_neg (by omega)] at hu1
                      refine (hrel0 i1 x0 j1 y1 u1 hx0 hy1 ?_).keep hK
                      rw [hfe _ hpos]; simpa using hu1
                  · rw [List.getElem?_set_ne (Ne.symm hie)] at hx1
                    have hne : ¬ (e * sz' + j ≤ i1 * sz' + j1 ∧ i1 * sz' + j1 < e * sz' + j + cs.length) := by
                      rintro ⟨h3, h4⟩
                      rcases Nat.lt_or_ge i1 e with h5 | h5
                      · have : i1 * sz' + sz' ≤ e * sz' := by rw [← Nat.succ_mul]; exact Nat.mul_le_mul_right _ h5
                        omega
                      · have : e * sz' + sz' ≤ i1 * sz' := by rw [← Nat.succ_mul]; exact Nat.mul_le_mul_right _ (by omega)
                        omega
                    rw [if_neg hne] at hu1
                    refine (hrel0 i1 x1 j1 y1 u1 hx1 hy1 ?_).keep hK
                    rw [hfe _ hpos]; simpa using hu1)
            exact hnext _ _ hset.1 (fun _ _ _ => rfl) (fun j u k h1 h2 => by simp at h2; omega) hset.2 (.any _)
      | dead => exact h.elim
      | box cs => exact h.elim
  | any => exact h.elim
  | kb b => exact h.elim
  | ub => exact h.elim
  | d x => exact h.elim
  | nils => exact h.elim
  | row l i n => exact h.elim
  | iptr cs => exact h.elim
  | func fn a b => exact h.elim
  | agg cs => exact h.elim
  | tuple cs => exact h.elim
end Go.Proofs.Ve
