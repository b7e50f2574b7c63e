/- HandAlone, part 3 of 5. The engine and the contracts that the proof needs. -/
import Derived.RangeFuncNested
import Derived.RangeFuncBound
import Derived.Scope
import Derived.Ground.Names2Prog
import Derived.Shelf.Slices.CompactI
import Derived.Shelf.Slices.Cells
import Derived.Shelf.Slices.In.SortNone
import Derived.Ground.SlbCloneProg
import Derived.Shelf.Bytes.SlClone
import Derived.Ground.SlgmProg
import Derived.Shelf.SortM.Plain
import Derived.Ground.Names8Prog
import Derived.Shelf.Spec.SlicesGrow
import Derived.Test.YtpmhiiembbfbeaaProg
import Derived.Sort.OwnSortedInts
import Derived.Test.YtpmhiiembbfbeaaHandAloneJ1
import Derived.Test.YtpmhiiembbfbeaaHandAloneJ2
/- A range over a function: what the value machine says of it is so. -/
set_option linter.all false
namespace Go.Proofs.Ve
open Go

theorem capsK_spec {top : List Blk} : ∀ (ps : List PV) (bs0 : List Nat) (K : List PV → List Nat → List RowB → Prop), bs0.Nodup → capsK top ps bs0 K →
    ∃ ps' bs G, K ps' bs G ∧ bs.length = G.length ∧ (bs0 ++ bs).Nodup ∧ (∀ (g : Nat) i, bs[g]? = some i → ∃ (r : RowB) (cs : List PV) (ds : List DV), G[g]? = some r ∧ top[i]? = some (.box cs) ∧ r.blk = .box (dpv ds) ∧ ds.length = cs.length ∧
        ∀ (m : M) (u : Nat → Value), (∀ (j : Nat) p, cs[j]? = some p → RP m p (u j)) → ∀ (j : Nat) y, ds[j]? = some y → RD m.w m.ok y (u j)) ∧
      ∀ (m : M) (ba : List Nat), (bs0 ++ bs) <+: ba → ps'.length = ps.length ∧ ∀ (j : Nat) p' v, ps'[j]? = some p' → (∀ p, ps[j]? = some p → RP m p v) → RP (giveM m ba) p' v
  | [], bs0, K, hnd, h => ⟨[], [], [], h, rfl, by simpa using hnd, fun g i hg => by simp at hg, fun m ba _ => ⟨rfl, fun j p' v hp => by simp at hp⟩⟩
  | p :: ps, bs0, K, hnd, h => by
    have plain : ∀ (p : PV), dvK p (fun x => capsK top ps bs0 fun ps' bs' G => K (.d x :: ps') bs' G) → (∃ ps' bs G, K ps' bs G ∧ bs.length = G.length ∧ (bs0 ++ bs).Nodup ∧ (∀ (g : Nat) i, bs[g]? = some i → ∃ (r : RowB) (cs : List PV) (ds : List DV), G[g]? = some r ∧ top[i]? = some (.box cs) ∧ r.blk = .box (dpv ds) ∧ ds.length = cs.length ∧
        ∀ (m : M) (u : Nat → Value), (∀ (j : Nat) p, cs[j]? = some p → RP m p (u j)) → ∀ (j : Nat) y, ds[j]? = some y → RD m.w m.ok y (u j)) ∧
      ∀ (m : M) (ba : List Nat), (bs0 ++ bs) <+: ba → ps'.length = (p :: ps).length ∧ ∀ (j : Nat) p' v, ps'[j]? = some p' → (∀ q, (p :: ps)[j]? = some q → RP m q v) → RP (giveM m ba) p' v) := by
      intro p h
      have key : ∃ x, (capsK top ps bs0 fun ps' bs' G => K (.d x :: ps') bs' G) ∧ ∀ m v, RP m p v → RP m (.d x) v := by
        unfold dvK at h
        split at h
        · exact ⟨_, h, fun m v hv => hv⟩
        · exact ⟨_, h, fun m v hv => by cases hv; exact rd_bool _⟩
        · exact ⟨_, h, fun m v hv => by cases hv; exact .d _ _ (.sl 0 [] none 0 0 default (fun _ => undef) rfl (Nat.le_refl _) (by omega) (by omega) (by simp) (fun i x j y hx => by simp at hx) (fun i x j y hx => by simp at hx))⟩
        · exact h.elim
      obtain ⟨x, h, hx⟩ := key
      obtain ⟨ps', bs, G, hk, h1, h2, h3, h4⟩ := capsK_spec ps bs0 _ hnd h
      refine ⟨_, _, _, hk, h1, h2, h3, fun m ba hpre => ?_⟩
      obtain ⟨q1, q2⟩ := h4 m ba hpre
      refine ⟨by simp [q1], fun j p' v hp hv => ?_⟩
      cases j with
      | zero =>
        simp at hp
        subst hp
        exact RP.other (m := m) (m' := giveM m ba) rfl (fun _ h => h) rfl (hx m v (hv p rfl))
      | succ j => exact q2 j p' v (by simpa using hp) (fun p0 h0 => hv p0 (by simpa using h0))
    rw [capsK_cons] at h
    unfold capOneK at h
    split at h
    · rename_i i o
      obtain ⟨b, hb, h⟩ := getK_spec.1 h
      split at h
      case h_2 => exact h.elim
      rename_i cs
      split at h
      · exact h.elim
      · rename_i hno
        obtain ⟨ds, h, hdl, hds⟩ := dvsK_spec h
        rw [lenK_spec] at h
        dsimp only at h
        rw [snocK_spec] at h
        have hni : i ∉ bs0 := fun hi => by
          rw [List.any_eq_false] at hno
          exact hno i hi (by simp)
        obtain ⟨ps', bs, G, hk, h1, h2, h3, h4⟩ := capsK_spec ps _ _ (by
          rw [List.nodup_append]
          refine ⟨hnd, by simp, fun a ha b hb e => ?_⟩
          simp at hb; subst hb; subst e; exact hni ha) h
        refine ⟨_, _, _, hk, by simp [h1], by simpa using h2, fun g j hg => ?_, fun m ba hpre => ?_⟩
        · cases g with
          | zero => simp at hg; subst hg; exact ⟨⟨0, 0, [ds]⟩, cs, ds, rfl, hb, rfl, hdl, hds⟩
          | succ g => exact h3 g j (by simpa using hg)
        · obtain ⟨q1, q2⟩ := h4 m ba (by simpa using hpre)
          refine ⟨by simp [q1], fun j p' v hp hv => ?_⟩
          cases j with
          | zero =>
            simp at hp
            subst hp
            have := hv _ rfl
            cases this with
            | ptr _ _ _ g hρ =>
              refine .ptr _ _ _ g ?_
              obtain ⟨t, rfl⟩ := hpre
              simp [giveM, hρ]
          | succ j => exact q2 j p' v (by simpa using hp) (fun p0 h0 => hv p0 (by simpa using h0))
    · obtain ⟨x, hx⟩ : ∃ y : PV, y = p := ⟨p, rfl⟩
      refine plain p ?_
      unfold dvK at h ⊢
      split at h <;> first | exact h | exact h.elim

theorem range_spec {C : Cx} (hC : C.Ok) {H : List (List Blk)} {mo : List (Nat × Tr)} {asg body : Code} (hA : Sound C H mo asg) (hB : Sound C H mo body) {r : Option Nat} {m0 : M0} {K : Exit → List PV → List Blk → Prop} {tm : List PV} {top : List Blk} {m : M} {a : Act} {g : Operand} {ps : Array Tmp}
    (hRC : ∀ l, r = some l → ∃ r0, m0.Z l = some (.loop r0)) (h : rangeK C g ps.toList (appL ps.toList (appL (dstsC asg) (dstsC body))) (wpM C H mo asg) (wpM C H mo body) K tm top) (hs : Full H m0 m a tm top) :
    (Code.rangeFunc g ps asg body).wpIn (FW r) 0 C.P (Post H m0 K) a m.w := by
  unfold rangeK at h
  obtain ⟨p, hp, h⟩ := evK_ev h
  split at h
  case h_2 => exact h.elim
  rename_i f cs
  simp only [ifK] at h
  split at h
  case h_2 => exact h.elim
  rename_i hpl
  obtain ⟨args, bs, G, h, hbl, hnd, hbs, hargs⟩ := capsK_spec cs [] _ List.nodup_nil h
  rw [List.nil_append] at hnd
  obtain ⟨top1, h, hl1, hd1, hs1⟩ := hideK_spec bs _ h
  unfold RangeV at h
  obtain ⟨xs, tmS, S, I, hIter, ⟨hI0, s0, hr0⟩, hrounds, hend⟩ := h
  obtain ⟨st, Vc, calm⟩ := hs
  have hval := eval_of st hp
  generalize hve : a.eval g = v at hval
  cases hval with
  | func _ _ _ fv cv e1 e2 r1 r2 => ?_
  obtain rfl : fv = #[] := Array.eq_empty_of_size_eq_zero e1.symm
  refine wpIn_rangeFunc ?_
  intro fn hfn
  -- entering
  have enter : ∃ (L : Nat) (mk : List Deferred) (dft : Nat) (W1 : World) (U1 : Nat → Prop), (Instr.enterLoop fn a.tmps ps asg body r).run C.P m.w = .ok (L, mk) W1 ∧
      St H { m0 with ds := mk ++ a.defers } ⟨W1, m.ρ, U1⟩ { a with defers := mk ++ a.defers } tm top ∧ Calm H m0 ⟨W1, m.ρ, U1⟩ (mk ++ a.defers) top Vc ∧ Quiet ⟨W1, m.ρ, U1⟩ top Vc L (.loop (recL fn a ps asg body dft .ready none)) ∧
      m.w.heap.size ≤ L ∧ (∀ k, k < m.w.heap.size → (U1 k ↔ m.U k)) ∧ (∀ d ∈ mk ++ a.defers, ∀ D, d = { target := .collected D, args := #[] } → D ≠ L) ∧
      m.w.heap.size ≤ W1.heap.size ∧ (∀ k, k < m.w.heap.size → W1.heap[k]? = m.w.heap[k]?) := by
    cases r with
    | none =>
      obtain ⟨a1, a2, a3⟩ := full_alloc (ds := a.defers) st ⟨calm.one, calm.used, calm.more, calm.old, calm.mine, calm.gen, calm.z, calm.nd, calm.late, calm.d⟩ (.deferred (some []))
      have c2 : Calm H m0 ⟨m.w.alloc (.deferred (some [])), m.ρ, fun k => m.U k ∨ k = m.w.heap.size⟩ ({ target := .collected m.w.heap.size, args := #[] } :: a.defers) top Vc := by
        refine ⟨a2.one, a2.used, a2.more, a2.old, a2.mine, a2.gen, a2.z, List.nodup_cons.2 ⟨fun hm => ?_, a2.nd⟩, fun hr d hd D e => ?_, fun d hd => ?_⟩
        · obtain ⟨D, q1, q2⟩ := calm.d _ hm
          cases q1
          have := (Array.getElem?_eq_some_iff.1 q2.heap).1
          omega
        · rcases List.mem_cons.1 hd with rfl | hd
          · cases e; exact st.since.size
          · exact calm.late hr d hd D e
        · rcases List.mem_cons.1 hd with rfl | hd
          · exact ⟨_, rfl, a3⟩
          · exact a2.d d hd
      obtain ⟨b1, b2, b3⟩ := full_alloc (ds := { target := .collected m.w.heap.size, args := #[] } :: a.defers) a1 ⟨c2.one, c2.used, c2.more, c2.old, c2.mine, c2.gen, c2.z, c2.nd, c2.late, c2.d⟩ (.loop (recL fn a ps asg body m.w.heap.size .ready none))
      refine ⟨(m.w.alloc (.deferred (some []))).heap.size, [{ target := .collected m.w.heap.size, args := #[] }], m.w.heap.size, _, _, by rw [World.size_alloc]; exact run_enterLoop_outer _ _ _ _ _, ⟨b1.inv, b1.size, b1.rel, rfl, b1.free, ⟨b1.since.os, b1.since.tape, b1.since.output, b1.since.size, b1.since.heap, b1.since.up, b1.since.U, b1.since.fresh⟩, b1.tsz, b1.prot⟩, ⟨b2.one, b2.used, b2.more, b2.old, b2.mine, b2.gen, b2.z, b2.nd, b2.late, b2.d⟩, b3, by rw [World.size_alloc]; omega, fun k hk => ?_, fun d hd D e => ?_, by show _ ≤ ((m.w.alloc (.deferred (some []))).alloc _).heap.size; rw [World.size_alloc, World.size_alloc]; omega, fun k hk => (heap_old _ _ _ (by rw [World.size_alloc]; omega)).trans (heap_old _ _ _ hk)⟩
      · show ((m.U k ∨ k = m.w.heap.size) ∨ k = (m.w.alloc (.deferred (some []))).heap.size) ↔ m.U k
        rw [World.size_alloc]
        exact ⟨fun h => h.elim (fun h => h.elim id (fun h => by omega)) (fun h => by omega), fun h => .inl (.inl h)⟩
      · rcases List.mem_append.1 hd with hd | hd
        · simp at hd; rw [hd] at e; cases e; rw [World.size_alloc]; omega
        · obtain ⟨D', q1, q2⟩ := calm.d d hd
          rw [q1] at e; cases e
          have := (Array.getElem?_eq_some_iff.1 q2.heap).1
          rw [World.size_alloc]; omega
    | some l0 =>
      obtain ⟨r0, hr0⟩ := hRC l0 rfl
      obtain ⟨b1, b2, b3⟩ := full_alloc (ds := a.defers) st ⟨calm.one, calm.used, calm.more, calm.old, calm.mine, calm.gen, calm.z, calm.nd, calm.late, calm.d⟩ (.loop (recL fn a ps asg body r0.defers .ready none))
      refine ⟨m.w.heap.size, [], r0.defers, _, _, run_enterLoop_inner (calm.z l0 _ hr0).heap _ _ _ _ _, b1, ⟨b2.one, b2.used, b2.more, b2.old, b2.mine, b2.gen, b2.z, b2.nd, b2.late, b2.d⟩, b3, Nat.le_refl _, fun k hk => ⟨fun h => h.elim id (fun h => by omega), .inl⟩, fun d hd D e => ?_, by show _ ≤ (m.w.alloc _).heap.size; rw [World.size_alloc]; omega, fun k hk => heap_old _ _ _ hk⟩
      obtain ⟨D', q1, q2⟩ := calm.d d hd
      rw [q1] at e; cases e
      have := (Array.getElem?_eq_some_iff.1 q2.heap).1
      omega
  obtain ⟨L, mk, dft, W1, U1, hent, st1, calm1, q1, hL, hU1, hdL, hsz01, hheap01⟩ := enter
  let a' : Act := { a with defers := mk ++ a.defers }
  let m1 : M := ⟨W1, m.ρ, U1⟩
  have hinv1 : Inv m1 top H := st1.inv
  have hK01 : Keep m m1 := ⟨fun _ _ _ h => h, hsz01, fun k hk => ⟨fun hu => hk.2 ((hU1 k hk.1).1 hu), hheap01 k hk.1⟩⟩
  -- what the iterator is given
  have inBs : ∀ i, i ∈ bs → ∃ (g : Nat) (cs : List PV), bs[g]? = some i ∧ top[i]? = some (.box cs) := fun i hi => by
    obtain ⟨g, hg⟩ := List.mem_iff_getElem?.1 hi
    obtain ⟨r', cs', ds, h1, h2, _⟩ := hbs g i hg
    exact ⟨g, cs', hg, h2⟩
  have gget : ∀ (g : Nat) (r' : RowB), G[g]? = some r' → ∃ i, bs[g]? = some i := fun g r' hg => ⟨_, List.getElem?_eq_getElem (by rw [hbl]; exact (List.getElem?_eq_some_iff.1 hg).1)⟩
  have givOf : ∀ k, Mine (giveM m1 bs) (G.map RowB.blk) k → ∃ i cs v, i ∈ bs ∧ top[i]? = some (.box cs) ∧ m.ρ 0 i = some v ∧ blkOf v = some k := by
    rintro k ⟨g, b, v, h1, h2, h3, h4⟩
    rw [List.getElem?_map] at h1
    obtain ⟨r', hr', rfl⟩ := Option.map_eq_some_iff.1 h1
    obtain ⟨i, hi⟩ := gget g r' hr'
    obtain ⟨_, cs', _, _, h6, _⟩ := hbs g i hi
    simp only [giveM, hi, Option.bind_some] at h3
    exact ⟨i, cs', v, List.mem_of_getElem? hi, h6, h3, h4⟩
  have hinvG : Inv (giveM m1 bs) (G.map RowB.blk) [] := by
    refine ⟨fun l i b hb => ?_, fun l i b l' i' b' v v' k h1 h2 h3 h4 h5 h6 h7 h8 => ?_, fun l i b v k h1 h2 h3 h4 => ?_, hinv1.lt⟩
    · cases l with
      | succ l => simp [getB] at hb
      | zero =>
        simp only [getB, List.getElem?_map] at hb
        obtain ⟨r', hr', rfl⟩ := Option.map_eq_some_iff.1 hb
        obtain ⟨j, hj⟩ := gget i r' hr'
        obtain ⟨r2, cs', ds, q1', q2', q3', q4', q5'⟩ := hbs i j hj
        rw [hr'] at q1'; cases q1'
        rw [q3']
        intro v hv
        simp only [giveM, hj, Option.bind_some] at hv
        obtain ⟨gg, vs, e, rfl, w1, w2, w3⟩ := hinv1.blk 0 j _ q2' v hv
        refine ⟨gg, vs, e, rfl, w1, by rw [w2, dpv_eq, List.length_map, q4'], fun x p u hp hu => ?_⟩
        obtain ⟨y, hy, rfl⟩ := dpv_get hp
        refine .d _ _ ((show u = (fun j => (vs[j]?).getD undef) x from by simp [hu]) ▸ q5' m1 (fun j => (vs[j]?).getD undef) (fun j' p' hp' => ?_) x y hy)
        have : j' < vs.size := by rw [w2]; exact (List.getElem?_eq_some_iff.1 hp').1
        rw [Array.getElem?_eq_getElem this]
        exact w3 j' p' _ hp' (Array.getElem?_eq_getElem this)
    · cases l with
      | succ l => simp [getB] at h1
      | zero => cases l' with
        | succ l' => simp [getB] at h3
        | zero =>
          simp only [getB, List.getElem?_map] at h1 h3
          obtain ⟨r', hr', rfl⟩ := Option.map_eq_some_iff.1 h1
          obtain ⟨r2, hr2, rfl⟩ := Option.map_eq_some_iff.1 h3
          obtain ⟨j, hj⟩ := gget i r' hr'
          obtain ⟨j', hj'⟩ := gget i' r2 hr2
          obtain ⟨_, c1', _, _, q2', _⟩ := hbs i j hj
          obtain ⟨_, c2', _, _, q2'', _⟩ := hbs i' j' hj'
          simp only [giveM, hj, hj', Option.bind_some] at h5 h6
          obtain ⟨_, rfl⟩ := hinv1.inj 0 j _ 0 j' _ v v' k q2' rfl q2'' rfl h5 h6 h7 h8
          exact ⟨rfl, (List.getElem?_inj (List.getElem?_eq_some_iff.1 hj).1 hnd).1 (hj.trans hj'.symm)⟩
    · obtain ⟨i', cs', v', w1, w2, w3, w4⟩ : ∃ i cs v', i ∈ bs ∧ top[i]? = some (.box cs) ∧ m.ρ 0 i = some v' ∧ blkOf v' = some k := by
        cases l with
        | succ l => simp [getB] at h1
        | zero => exact givOf k ⟨i, b, v, h1, h2, h3, h4⟩
      exact hinv1.own 0 i' _ v' k w2 rfl w3 w4
  -- the frame, while it is under way
  let V0 : Nat → Prop := fun k => U1 k ∧ ¬ Mine (giveM m1 bs) (G.map RowB.blk) k
  have notGiv : ∀ l i b v k, getB top1 H l i = some b → b.live = true → m1.ρ l i = some v → blkOf v = some k → getB top H l i = some b ∧ ¬ Mine (giveM m1 bs) (G.map RowB.blk) k := fun l i b v k h1 h2 h3 h4 => by
    have hb : getB top H l i = some b ∧ (l = 0 → i ∉ bs) := by
      cases l with
      | succ l => exact ⟨h1, fun h => by cases h⟩
      | zero =>
        simp only [getB] at h1 ⊢
        by_cases hi : i ∈ bs
        · have hlt : i < top.length := by rw [← hl1]; exact (List.getElem?_eq_some_iff.1 h1).1
          rw [hd1 i hi hlt] at h1; cases h1; cases h2
        · rw [hs1 i hi] at h1; exact ⟨h1, fun _ => hi⟩
    refine ⟨hb.1, fun hm => ?_⟩
    obtain ⟨i', cs', v', w1, w2, w3, w4⟩ := givOf k hm
    obtain ⟨rfl, rfl⟩ := hinv1.inj l i b 0 i' _ v v' k hb.1 h2 w2 rfl h3 w3 h4 w4
    exact hb.2 rfl w1
  have mineTop : ∀ k, Mine m1 top1 k → Mine m1 top k := fun k ⟨i, b, v, h1, h2, h3, h4⟩ => ⟨i, b, v, (notGiv 0 i b v k h1 h2 h3 h4).1, h2, h3, h4⟩
  have givMine : ∀ k, Mine (giveM m1 bs) (G.map RowB.blk) k → Mine m1 top k := fun k hm => by
    obtain ⟨i', cs', v', w1, w2, w3, w4⟩ := givOf k hm
    exact ⟨i', _, v', w2, rfl, w3, w4⟩
  have quiet0 : ∀ k o, Quiet m1 top Vc k o → Quiet m1 top1 Vc k o ∧ V0 k := fun k o q => ⟨⟨q.heap, fun hm => q.mine (mineTop k hm), q.out, q.used⟩, q.used, fun hm => q.mine (givMine k hm)⟩
  have gen1 : ∀ (i : Nat) Y st, top1[i]? = some (.gen Y st) → top[i]? = some (.gen Y st) := fun i Y st hi => by
    by_cases hb : i ∈ bs
    · have hlt : i < top.length := by rw [← hl1]; exact (List.getElem?_eq_some_iff.1 hi).1
      rw [hd1 i hb hlt] at hi; cases hi
    · rwa [hs1 i hb] at hi
  have held0 : Held H m0 a' L V0 m1 tm top1 (.loop (recL fn a ps asg body dft .ready none)) := by
    have hinvT : Inv m1 top1 H := ⟨fun l i b hb => by
        cases hlv : b.live with
        | false => cases b <;> simp [Blk.live] at hlv <;> exact True.intro
        | true =>
          cases hρ : m1.ρ l i with
          | none => cases b <;> first | trivial | (intro v h; rw [hρ] at h; cases h)
          | some v =>
            have hb' : getB top H l i = some b := by
              cases l with
              | succ l => exact hb
              | zero =>
                simp only [getB] at hb ⊢
                by_cases hi : i ∈ bs
                · have hlt : i < top.length := by rw [← hl1]; exact (List.getElem?_eq_some_iff.1 hb).1
                  rw [hd1 i hi hlt] at hb; cases hb; cases hlv
                · rwa [hs1 i hi] at hb
            exact hinv1.blk l i b hb', fun l i b l' i' b' v v' k h1 h2 h3 h4 h5 h6 h7 h8 => hinv1.inj l i b l' i' b' v v' k (notGiv l i b v k h1 h2 h5 h7).1 h2 (notGiv l' i' b' v' k h3 h4 h6 h8).1 h4 h5 h6 h7 h8, fun l i b v k h1 h2 h3 h4 => hinv1.own l i b v k (notGiv l i b v k h1 h2 h3 h4).1 h2 h3 h4, hinv1.lt⟩
    have t := st1.since
    have hlate : m0.w.heap.size ≤ m.w.heap.size := st.since.size
    refine ⟨⟨hinvT, st1.size, st1.rel, rfl, fun j hj => st1.free j (by rwa [← hl1]), ⟨t.os, t.tape, t.output, t.size, t.heap, t.up, t.U, fun k hk => t.fresh k (mineTop k hk)⟩, st1.tsz, st1.prot⟩, ⟨Vc, ⟨fun i j Y s Y' s' h1 h2 => calm1.one i j Y s Y' s' (gen1 i Y s h1) (gen1 j Y' s' h2), calm1.used, calm1.more, calm1.old, fun k hk hm => calm1.mine k hk (mineTop k hm), fun i Y s hi => calm1.gen i Y s (gen1 i Y s hi), fun k o hz => (quiet0 k o (calm1.z k o hz)).1, calm1.nd, calm1.late, fun d hd => ?_⟩, fun k hk => ⟨calm1.used k hk, fun hm => calm1.mine k hk (givMine k hm)⟩, (quiet0 L _ q1).1⟩, fun k o hz => ⟨?_, (quiet0 k o (calm1.z k o hz)).2⟩, fun d hd D e => ⟨hdL d hd D e, ?_⟩, fun l i b v k h1 h2 h3 h4 => ?_, (quiet0 L _ q1).2, fun k hk hu => ?_, Nat.le_trans hlate hL⟩
    · obtain ⟨D, e1, e2⟩ := calm1.d d hd
      exact ⟨D, e1, (quiet0 D _ e2).1⟩
    · have := (Array.getElem?_eq_some_iff.1 (calm.z k o hz).heap).1
      omega
    · obtain ⟨D', e1, e2⟩ := calm1.d d hd
      rw [e1] at e; cases e
      exact (quiet0 _ _ e2).2
    · obtain ⟨w1, w2⟩ := notGiv l i b v k h1 h2 h3 h4
      refine ⟨⟨hinv1.own l i b v k w1 h2 h3 h4, w2⟩, fun e => ?_⟩
      have := st.inv.lt k (st.inv.own l i b v k w1 h2 h3 h4)
      omega
    · by_cases hm : Mine (giveM m1 bs) (G.map RowB.blk) k
      · rcases st.since.fresh k (mine_other (m := m) (m' := m1) rfl (givMine k hm)) with h1 | h1
        · exact absurd hk (Nat.not_lt.2 h1)
        · exact .inr (.inl h1)
      · exact .inl ⟨hu, hm⟩
  have heldS := held0.ref hr0
  -- whom it yields to
  let Y : Yield := ⟨C.P, xs, fun st V w U => ∃ ρ : Nat → Nat → Option Value, match st with
    | some k => I k ∧ Held H m0 a' L V ⟨w, ρ, U⟩ tmS (S k) (.loop (recL fn a' ps asg body dft .ready none))
    | none => ∃ e c tmc topc, jumpC e = some c ∧ K e tmc topc ∧ Held H m0 a' L V ⟨w, ρ, U⟩ tmc topc (.loop (recL fn a' ps asg body dft .done (some c)))⟩
  have hY : YieldOk Y (.func (.yield L) #[] #[]) := by
    refine ⟨fun st V w U w' U' hab hVU hU hJ => ?_, L, rfl, fun k x V U w vs hx hJ hVU hU hl hry => ?_⟩
    · obtain ⟨ρ, hJ⟩ := hJ
      refine ⟨ρ, ?_⟩
      cases st with
      | some k => exact ⟨hJ.1, Held.abide (m := ⟨w, ρ, U⟩) hJ.2 hab hVU⟩
      | none =>
        obtain ⟨e, c, tmc, topc, h1, h2, h3⟩ := hJ
        exact ⟨e, c, tmc, topc, h1, h2, Held.abide (m := ⟨w, ρ, U⟩) h3 hab hVU⟩
    · obtain ⟨ρ, hJ⟩ := hJ
      have hr := round_spec hA hB (m := ⟨w, ρ, U⟩) hJ.2 (K := K) (Nx := I (k + 1)) (W := appL ps.toList (appL (dstsC asg) (dstsC body))) (fun d hd => mem_appL.2 (.inl hd)) (fun d hd => mem_appL.2 (.inr (mem_appL.2 (.inl hd)))) (fun d hd => mem_appL.2 (.inr (mem_appL.2 (.inr hd)))) (hrounds k x hx hJ.1) hVU hl hry
      refine YieldAt.mono hr ?_
      rintro e w' ⟨b, U', V', rfl, hst, ρ', h⟩
      refine ⟨b, U', V', rfl, hst, ρ', ?_⟩
      rcases h with ⟨rfl, h⟩ | ⟨rfl, h⟩
      · exact h
      · exact h
  unfold IterEq at hIter
  have hcall := hIter Y V0 (giveM m1 bs) cv (.func (.yield L) #[] #[]) rfl rfl hY hinvG (fun i hi => by simp [giveM, List.getElem?_eq_none (show bs.length ≤ i by omega)]) (((hargs m1 bs (by simp)).1).trans e2) (fun j p v hp hv => (hargs m1 bs (by simp)).2 j p v hp (fun p0 h0 => (r2 j p0 v h0 hv).keep hK01)) (fun k hk => hk.1) (fun k hk => hk.2) ⟨_, hI0, heldS⟩
  refine ⟨L, mk, W1, { target := .fn (.func f) cv, args := #[.func (.yield L) #[] #[]] }, W1, f, #[.func (.yield L) #[] #[]] ++ cv, W1, hent, ?_, fun _ _ => trivial, ?_, (fun h => by cases h), ?_⟩
  · simp only [resolve, hve]
    simp [go_sem]
  · exact run_callFunc hC hpl _ _
  refine calls_in (hcall.mono ?_)
  rintro e w' ⟨rv, U', V', st', rfl, _, _, _, _, _, _, _, _, _, _, ⟨ρ, hJ⟩, hst⟩
  rcases hst with rfl | rfl
  · obtain ⟨hI, hJ⟩ : I xs.length ∧ Held H m0 a' L V' ⟨w', ρ, U'⟩ tmS (S xs.length) (.loop (recL fn a' ps asg body dft .ready none)) := hJ
    obtain ⟨V2, _, _, q2⟩ := hJ.calm
    refine ⟨none, _, run_endLoop q2.heap (by simp [recL]), ?_⟩
    have hJ' := hJ.obj (.loop { recL fn a' ps asg body dft .ready none with state := .exhausted })
    obtain ⟨V3, c3, _, _⟩ := hJ'.calm
    exact ⟨rfl, tmS, S xs.length, _, rfl, hend hI, hJ'.st, V3, c3⟩
  · obtain ⟨e, c, tmc, topc, h1, h2, hJ⟩ := hJ
    obtain ⟨V2, _, _, q2⟩ := hJ.calm
    refine ⟨some c, _, run_endLoop q2.heap (by simp [recL]), ?_⟩
    have hJ' := hJ.obj (.loop { recL fn a' ps asg body dft .done (some c) with state := .exhausted })
    obtain ⟨V3, c3, _, _⟩ := hJ'.calm
    have fin : okE e = true → Post H m0 K e a' (w'.putObj L (.loop { recL fn a' ps asg body dft .done (some c) with state := .exhausted })) := fun hok => ⟨hok, tmc, topc, _, rfl, h2, hJ'.st, V3, c3⟩
    cases e with
    | ret => cases h1; exact wpIn_ret (fin rfl)
    | exit id => cases h1; exact wpIn_exit (fin rfl)
    | goto l => cases h1; exact wpIn_goto (fin rfl)
    | _ => cases h1
theorem rangeV_of {C : Cx} {f : Nat} {G : List RowB} {args : List PV} {ps W : List Nat} {asg body : (Exit → List PV → List Blk → Prop) → List PV → List Blk → Prop} {K : Exit → List PV → List Blk → Prop} {tm : List PV} {top : List Blk}
    (xs : List (List YV)) (tmS : List PV) (S : Nat → List Blk) (I : Nat → Prop) (s : List Nat) (h1 : IterEq C f G args xs) (h0 : I 0) (h2 : Ref s tm top tmS (S 0))
    (h3 : ∀ k x, xs[k]? = some x → I k → putPs ps x tmS fun tmr => asg (fun e tm1 top1 => match e with
      | .normal => body (fun e tm2 top2 => match e with
          | .normal => maskK W tm2 fun tm3 => I (k + 1) ∧ ∃ s, Ref s tm3 top2 tmS (S (k + 1))
          | e => maskK W tm2 fun tm3 => K e tm3 top2) tm1 top1
      | _ => False) tmr (S k)) (h4 : I xs.length → K .normal tmS (S xs.length)) : RangeV C f G args ps W asg body K tm top := by
  unfold RangeV
  exact ⟨xs, tmS, S, I, h1, ⟨h0, s, h2⟩, h3, h4⟩
end Go.Proofs.Ve

/- Code and calls: what the value machine says of them is so. -/
set_option linter.all false
namespace Go.Proofs.Ve
open Go

section
variable {F : Fence} {n : Nat} {P : Program} {b : Frame} {a : Act} {k : List Item} {cs : List Frame} {w : World} {Q : Exit → Act → World → Prop}
theorem stepR_scope {c : Code} : step P (lone (b.atR a (.code (.scope c) :: k)) cs w) = .next (lone (b.atR a (.code c :: .inScope c :: k)) cs w) :=
  step_lone_go (by simp [stepG, stepG.exec, Frame.atR])
theorem stepR_inScope {c : Code} : step P (lone (b.atR a (.inScope c :: k)) cs w) = .next (lone (b.atR a k) cs w) :=
  step_lone_go (by simp [stepG, stepG.exec, Frame.atR])
theorem wpIn_scope_straight {c : Code} (h : c.wpIn F n P (Exit.noGoto Q) a w) : (Code.scope c).wpIn F n P Q a w := by
  intro b k cs hro hb hr
  have h0 : (lone (b.atR a (.code (.scope c) :: k)) cs w).fenced P F := fenced_calm hb hr rfl
  obtain ⟨e, a₁, w₁, hq, harr⟩ := h b (.inScope c :: k) cs hro hb hr
  cases e with
  | normal => exact ⟨.normal, a₁, w₁, hq, .head h0 stepR_scope (StepsIn.trans harr (.one (fenced_calm hb hr rfl) stepR_inScope))⟩
  | exit id =>
    have hx : exitTo id (.inScope c :: k) = exitTo id k := by simp [exitTo]
    exact ⟨.exit id, a₁, w₁, hq, fun k' hk => .head h0 stepR_scope (harr.1 k' (by rw [hx]; exact hk)), fun hr' hk => let ⟨k₁, h1, h2⟩ := harr.2 hr' (by rw [hx]; exact hk); ⟨k₁, h1, .head h0 stepR_scope h2⟩⟩
  | goto l => exact hq.elim
  | ret => exact ⟨_, a₁, w₁, hq, .of_steps (.one h0 stepR_scope) harr⟩
  | panic ch => exact ⟨_, a₁, w₁, hq, .of_steps (.one h0 stepR_scope) harr⟩
  | outgrown => exact ⟨_, a₁, w₁, hq, .of_steps (.one h0 stepR_scope) harr⟩
end

theorem wpC_sound {C : Cx} (hC : C.Ok) {H : List (List Blk)} {mo : List (Nat × Tr)} (c : Code) : drawsM C.give mo c = true → Sound C H mo c := by
  induction c with
  | skip => intro _ r m0 K tm top m a _ _ h hs; exact wpIn_skip ⟨rfl, tm, top, m, rfl, h, hs⟩
  | label l => intro _ r m0 K tm top m a _ _ h hs; exact wpIn_label ⟨rfl, tm, top, m, rfl, h, hs⟩
  | exit id => intro _ r m0 K tm top m a _ _ h hs; exact wpIn_exit ⟨rfl, tm, top, m, rfl, h, hs⟩
  | ret => intro _ r m0 K tm top m a _ _ h hs; exact wpIn_ret ⟨rfl, tm, top, m, rfl, h, hs⟩
  | goto l => intro _ r m0 K tm top m a _ _ h hs; exact wpIn_goto ⟨rfl, tm, top, m, rfl, h, hs⟩
  | scope x ihx =>
    intro hd r m0 K tm top m a hr hW h hs
    refine wpIn_scope_straight (wpIn_mono (ihx hd r m0 _ tm top m a hr hW h hs) ?_)
    rintro e a' w ⟨hok, tm', top', m', rfl, hk, hs'⟩
    cases e with
    | goto l => exact hk
    | _ => exact ⟨hok, tm', top', m', rfl, hk, hs'⟩
  | region id ops draw =>
    intro hd r m0 K tm top m a hr hW h hs
    have hW' : ∀ o ∈ ops.toList, ∀ d, o.dst = some d → m0.W d := fun o ho d hd => hW d (mem_opDsts.2 ⟨o, ho, hd⟩)
    cases draw with
    | false =>
      refine wpIn_region ?_
      have := opsY_spec hC (r := r) (m0 := m0) (Q := Post H m0 K) (K := fun tm' top' => K .normal tm' top') (fun m a tm top hk hs => ⟨rfl, tm, top, m, rfl, hk, hs⟩) hW' ops.toList (List.range ops.size) [] tm top m a (by simp) (fun k i hi => by
        have : k < ops.size := by have := (List.getElem?_eq_some_iff.1 hi).1; simpa using this
        simp [this] at hi
        subst hi; rfl) h hs (fun d hd => by cases hd)
      simpa using this
    | true =>
      simp only [drawsM, Bool.not_true, Bool.false_or, Bool.and_eq_true] at hd
      obtain ⟨hnd, hd⟩ := hd
      rcases moK_spec (show moK mo id (fun t => trK C H ops.toList t (fun tm' top' => K .normal tm' top') tm top) (opsK C H ops.toList ops.toList tm top fun tm' top' => K .normal tm' top') from h) with ⟨t, ht, h⟩ | ⟨ht, h⟩
      · rw [ht] at hd
        have := tr_spec hC (r := r) (ops := ops.toList) (id := id) (m0 := m0) (K := fun tm' top' => K .normal tm' top') (Q := Post H m0 K) hnd hd hW' (fun m a tm top hk hs => ⟨rfl, tm, top, m, rfl, hk, hs⟩) h hs
        simpa using this
      · rw [ht] at hd
        have := draw_spec hC (r := r) (ops := ops.toList) (id := id) (m0 := m0) (K := fun tm' top' => K .normal tm' top') (Q := Post H m0 K) hnd (by simpa using hd) hW' (fun m a tm top hk hs => ⟨rfl, tm, top, m, rfl, hk, hs⟩) h hs
        simpa using this
  | seq x y ihx ihy =>
    intro hd r m0 K tm top m a hr hW h hs
    simp only [drawsM, Bool.and_eq_true] at hd
    refine wpIn_seq (wpIn_mono (ihx hd.1 r m0 _ tm top m a hr (fun d hd => hW d (mem_appL.2 (.inl hd))) h hs) ?_)
    rintro e a' w ⟨hok, tm', top', m', rfl, hk, hs'⟩
    cases e with
    | normal => exact ihy hd.2 r m0 K tm' top' m' a' hr (fun d hd => hW d (mem_appL.2 (.inr hd))) hk hs'
    | _ => exact ⟨hok, tm', top', m', rfl, hk, hs'⟩
  | cond c x y ihx ihy =>
    intro hd r m0 K tm top m a hr hW h hs
    simp only [drawsM, Bool.and_eq_true] at hd
    have hWx : ∀ d ∈ dstsC x, m0.W d := fun d hd => hW d (mem_appL.2 (.inl hd))
    have hWy : ∀ d ∈ dstsC y, m0.W d := fun d hd => hW d (mem_appL.2 (.inr hd))
    obtain ⟨p, hp, h⟩ := evK_ev h
    have hv := eval_of hs.1 hp
    generalize hve : a.eval c = v at hv
    split at h
    · cases hv
      exact wpIn_cond_true hve (ihx hd.1 r m0 K tm top m a hr hWx h hs)
    · cases hv
      exact wpIn_cond_false hve (ihy hd.2 r m0 K tm top m a hr hWy h hs)
    · cases hv
      exact wpIn_cond_split hve (fun _ => ihx hd.1 r m0 K tm top m a hr hWx h.1 hs) (fun _ => ihy hd.2 r m0 K tm top m a hr hWy h.2 hs)
    · cases hv with
      | d _ _ hx =>
        cases hx
        exact wpIn_cond_split hve (fun e => ihx hd.1 r m0 K tm top m a hr hWx (h.1 e) hs) (fun e => ihy hd.2 r m0 K tm top m a hr hWy (h.2 e) hs)
    · exact h.elim
  | block id x ihx =>
    intro hd r m0 K tm top m a hr hW h hs
    refine wpIn_block (wpIn_mono (ihx hd r m0 _ tm top m a hr hW h hs) ?_)
    rintro e a' w ⟨hok, tm', top', m', rfl, hk, hs'⟩
    cases e with
    | exit id' =>
      simp only [Exit.inBlock]
      dsimp only at hk
      cases hb : Nat.beq id' id with
      | true =>
        rw [hb] at hk
        rw [if_pos (Nat.eq_of_beq_eq_true hb)]
        exact ⟨rfl, tm', top', m', rfl, hk, hs'⟩
      | false =>
        rw [hb] at hk
        rw [if_neg (fun e => by subst e; simp at hb)]
        exact ⟨rfl, tm', top', m', rfl, hk, hs'⟩
    | _ => exact ⟨hok, tm', top', m', rfl, hk, hs'⟩
  | loop x ihx =>
    intro hd r m0 K tm top m a hr hW h hs
    change LoopV (wpM C H mo x) K tm top at h
    unfold LoopV at h
    obtain ⟨ι, S, I, μ, ⟨i0, s0, hI0, hr0⟩, hstep⟩ := h
    have key : ∀ (n : Nat) (i : ι) (m : M) (a : Act), μ i < n → I i → Full H m0 m a (S i).tm (S i).top → Code.roundsIn (FW r) 0 C.P x (Post H m0 K) n a m.w := by
      intro n
      induction n with
      | zero => intro i m a h; omega
      | succ n ih =>
        intro i m a hμ hI hs
        rw [roundsIn_succ]
        refine wpIn_mono (ihx hd r m0 _ _ _ m a hr hW (hstep i hI) hs) ?_
        rintro e a' w ⟨hok, tm', top', m', rfl, hk, hs'⟩
        cases e with
        | normal =>
          obtain ⟨i', s', hI', hlt, hr'⟩ := hk
          exact ih i' (m'.ren s' top'.length) a' (by omega) hI' (hs'.ref hr')
        | _ => exact ⟨hok, tm', top', m', rfl, hk, hs'⟩
    exact wpIn_loop_rounds (μ i0 + 1) (key _ i0 (m.ren s0 top.length) a (Nat.lt_succ_self _) hI0 (hs.ref hr0))
  | rangeFunc g ps x y ihx ihy =>
    intro hd r m0 K tm top m a hr hW h hs
    simp only [drawsM, Bool.and_eq_true] at hd
    exact range_spec hC (ihx hd.1) (ihy hd.2) hr h hs
  | _ => intro _ r m0 K tm top m a _ _ h _; exact h.elim

/-! ### what is handed back -/
theorem load_as {P : Program} {t : TypeId} {v u : Value} {w : World} (h : (Instr.loadAt t v).run P w = .ok u w) : ((asAddr v) >>= loadVar t).run P w = .ok u w := by
  cases v with
  | pointer a => cases a <;> simpa [Instr.loadAt, Instr.sureAddr, asAddr] using h
  | _ => simp [Instr.loadAt, Instr.sureAddr, stuck] at h

def resF (tmps : Array Value) : ResultVar → Sem Value
  | .tmp t => pure (tmps.getD t undef)
  | .cell a t => do loadVar t (← asAddr (tmps.getD a undef))
theorem resK_spec {C : Cx} (hC : C.Ok) {H : List (List Blk)} {tm : List PV} {top : List Blk} : ∀ {rvs : List ResultVar} {K : List PV → Prop}, resK C H tm top rvs K →
    ∃ ps, K ps ∧ ∀ m0 m a, St H m0 m a tm top → ∃ vs : List Value, ps.length = vs.length ∧ (rvs.mapM (resF a.tmps)).run C.P m.w = .ok vs m.w ∧ ∀ (j : Nat) p v, ps[j]? = some p → vs[j]? = some v → RP m p v
  | [], K, h => ⟨[], h, fun m0 m a hs => ⟨[], rfl, by simp, fun j p v hp => by simp at hp⟩⟩
  | .tmp t :: rs, K, h => by
    obtain ⟨p, hp, h⟩ := getK_spec.1 h
    obtain ⟨ps, hk, hh⟩ := resK_spec hC h
    refine ⟨p :: ps, hk, fun m0 m a hs => ?_⟩
    obtain ⟨vs, hl, hrun, hr⟩ := hh m0 m a hs
    have h1 := hs.evR [.tmp t] t p (List.mem_singleton.2 rfl) hp
    refine ⟨a.tmps.getD t undef :: vs, by simp [hl], ?_, fun j q v hq hv => ?_⟩
    · simp only [List.mapM_cons, resF, Sem.run_bind, Sem.run_pure, Result.andThen_ok, hrun]
    · cases j with
      | zero => simp only [List.getElem?_cons_zero, Option.some.injEq] at hq hv; subst hq; subst hv; exact h1
      | succ j => exact hr j q v (by simpa using hq) (by simpa using hv)
  | .cell x t :: rs, K, h => by
    obtain ⟨p, hp, h⟩ := getK_spec.1 h
    obtain ⟨q0, h, hq0⟩ := loadK_spec hC h
    obtain ⟨ps, hk, hh⟩ := resK_spec hC h
    refine ⟨q0 :: ps, hk, fun m0 m a hs => ?_⟩
    obtain ⟨vs, hl, hrun, hr⟩ := hh m0 m a hs
    have h1 := hs.evR [.tmp x] x p (List.mem_singleton.2 rfl) hp
    obtain ⟨u, hu, hru⟩ := hq0 m _ hs.inv h1
    have hu' : (resF a.tmps (.cell x t)).run C.P m.w = .ok u m.w := load_as hu
    refine ⟨u :: vs, by simp [hl], ?_, fun j q v hq hv => ?_⟩
    · simp only [List.mapM_cons, Sem.run_bind, Sem.run_pure, hu', Result.andThen_ok, hrun]
    · cases j with
      | zero => simp only [List.getElem?_cons_zero, Option.some.injEq] at hq hv; subst hq; subst hv; exact hru
      | succ j => exact hr j q v (by simpa using hq) (by simpa using hv)

def oneV : List Value → Value
  | [v] => v
  | vs => .tuple vs.toArray
theorem results_run {P : Program} {fn : Func} {tmps : Array Value} {w : World} {vs : List Value} (h : (fn.results.toList.mapM (resF tmps)).run P w = .ok vs w) :
    (results fn tmps).run P w = .ok (oneV vs) w := by
  have h1 : (fn.results.mapM (resF tmps)).run P w = .ok vs.toArray w := by
    rw [← Array.toArray_toList (xs := fn.results), List.mapM_toArray]
    simp [h]
  have h2 : results fn tmps = (do let vs ← fn.results.mapM (resF tmps); pure (if h : vs.size = 1 then vs[0] else .tuple vs)) := by
    unfold results
    congr 2
  rw [h2]
  simp only [Sem.run_bind, h1, Result.andThen_ok, Sem.run_pure]
  match vs with
  | [] => simp [oneV]
  | [v] => simp [oneV]
  | v :: u :: vs => simp [oneV]

theorem padK_spec : ∀ {args : List PV} {n : Nat} {K : List PV → Prop}, padK args n K → args.length ≤ n ∧ K (args ++ List.replicate (n - args.length) .any)
  | [], 0, K, h => ⟨Nat.le_refl _, h⟩
  | [], n + 1, K, h => by
    have := (padK_spec (args := []) (n := n) h).2
    refine ⟨Nat.zero_le _, ?_⟩
    simpa [List.replicate_succ] using this
  | p :: ps, 0, K, h => h.elim
  | p :: ps, n + 1, K, h => by
    obtain ⟨h1, h2⟩ := padK_spec (args := ps) (n := n) h
    refine ⟨by simp; omega, ?_⟩
    simpa using h2

theorem refs_dpv {s : List Nat} {n nt : Nat} : ∀ {cs : List PV} {ds : List DV}, dvsK cs (fun xs => xs = ds) → refT s n nt cs (dpv ds)
  | [], [], _ => trivial
  | [], _ :: _, h => by cases h
  | c :: cs, ds, h => by
    rw [dvsK_cons] at h
    have key : ∀ x, refP s n nt c (.d x) → dvsK cs (fun xs => x :: xs = ds) → refT s n nt (c :: cs) (dpv ds) := fun x hx h => by
      cases ds with
      | nil =>
        exfalso
        obtain ⟨ys, h, _⟩ := dvsK_spec h
        cases h
      | cons y ds =>
        obtain ⟨ys, h', _⟩ := dvsK_spec h
        cases h'
        have h2 : dvsK cs (fun xs => xs = ds) := by
          have : ∀ {cs : List PV} {K K' : List DV → Prop}, (∀ xs, K xs → K' xs) → dvsK cs K → dvsK cs K' := by
            intro cs
            induction cs with
            | nil => intro K K' hk h; exact hk _ h
            | cons c cs ih =>
              intro K K' hk h
              rw [dvsK_cons] at h ⊢
              unfold dvK at h ⊢
              split at h <;> first | exact ih (fun xs hx => hk _ hx) h | exact h.elim
          exact this (fun xs hx => by cases hx; rfl) h
        exact ⟨hx, refs_dpv h2⟩
    unfold dvK at h
    split at h
    · exact key _ rfl h
    · exact key _ rfl h
    · exact key _ rfl h
    · exact h.elim
theorem refN_B {top : List Blk} {s : List Nat} {n : Nat} : ∀ {js : List Nat} {N : List RowB}, refN top js N → refB s n top js (N.map RowB.blk)
  | [], [], _ => trivial
  | [], _ :: _, h => h.elim
  | _ :: _, [], h => h.elim
  | j :: js, r :: rs, h => by
    refine ⟨?_, refN_B h.2⟩
    have h1 : refRow top[j]? r := h.1
    unfold refRow at h1
    split at h1
    · rename_i e' sz' xs' hb
      cases hz : Nat.beq sz' 0 with
      | true => rw [hz] at h1; exact h1.elim
      | false =>
        rw [hz] at h1
        obtain ⟨rfl, rfl, rfl⟩ := h1
        unfold RowB.blk
        rw [hz]
        show refOne s n top j (.row r.e r.sz r.xs)
        simp only [refOne, hb]
        exact ⟨trivial, trivial, trivial⟩
    · rename_i hb
      obtain ⟨h1, h2⟩ := h1
      have hz : Nat.beq r.sz 0 = false := by
        cases hz : Nat.beq r.sz 0 with
        | false => rfl
        | true => have := Nat.eq_of_beq_eq_true hz; rw [this] at h2; cases h2
      unfold RowB.blk
      rw [hz]
      show refOne s n top j (.row r.e r.sz r.xs)
      simp only [refOne, hb]
      exact ⟨h1, h2⟩
    · rename_i cs' hb
      split at h1
      · rename_i hz
        unfold RowB.blk
        rw [hz]
        show refOne s n top j (.box (dpv (headD r.xs)))
        simp only [refOne, hb]
        exact refs_dpv h1
      · exact h1.elim
    · exact h1.elim


theorem ret_spec {C : Cx} (hC : C.Ok) {H : List (List Blk)} {fn : Func} {r : PV} {N : List RowB} {m0 : M0} {tm : List PV} {top : List Blk} {m : M} {a : Act} (hs : St H m0 m a tm top)
    (h : resK C H tm top fn.results.toList fun ps => oneK ps fun p => ∃ s, nodupB s = true ∧ refP s s.length top.length p r ∧ refN top s N) :
    ∃ v, (results fn a.tmps).run C.P m.w = .ok v m.w ∧ ∃ m2 : M, m2.w = m.w ∧ (∀ i, N.length ≤ i → m2.ρ 0 i = none) ∧ Since m0 m2 (N.map RowB.blk) ∧ Inv m2 (N.map RowB.blk) H ∧ RP m2 r v := by
  obtain ⟨ps, hk, hh⟩ := resK_spec hC h
  obtain ⟨vs, hl, hrun, hr⟩ := hh m0 m a hs
  refine ⟨_, results_run hrun, ?_⟩
  have fin : ∀ p v, RP m p v → (∃ s, nodupB s = true ∧ refP s s.length top.length p r ∧ refN top s N) → ∃ m2 : M, m2.w = m.w ∧ (∀ i, N.length ≤ i → m2.ρ 0 i = none) ∧ Since m0 m2 (N.map RowB.blk) ∧ Inv m2 (N.map RowB.blk) H ∧ RP m2 r v := by
    rintro p v hp ⟨s, h1, h2, h3⟩
    have hB := refN_B (s := s) (n := s.length) h3
    exact ⟨m.ren s top.length, rfl, ren_free (by simpa using (refB_get hB).1), since_ren hB hs.since, inv_ren hs.inv hs.free h1 hB, rp_ref hs.free h2 hp⟩
  unfold oneK at hk
  split at hk
  · rename_i p
    match vs, hl, hr with
    | [v], _, hr => exact fin p v (hr 0 p v rfl rfl) hk
  · rename_i hne
    refine fin (.tuple ps) _ ?_ hk
    have : oneV vs = Value.tuple vs.toArray := by
      clear hrun hr hh
      match vs, hl with
      | [], _ => rfl
      | [v], hl => exact absurd (show ps = [ps[0]'(by simp at hl; omega)] by match ps, hl with | [p], _ => rfl) (hne _)
      | v :: u :: vs, _ => rfl
    rw [this]
    exact .tuple _ _ (by simp [hl]) (fun j p v hp hv => hr j p v hp (by simpa using hv))

/-- out of a function, past the marks of its ranges -/
theorem leaves_spec {P : Program} {fn : Func} {H : List (List Blk)} {m0 : M0} {a : Act} {tm : List PV} {top : List Blk} {V : Nat → Prop} {R : Ending → World → Prop} (hz : ∀ k, m0.Z k = none) (hrnd : m0.rnd = false) (hH : ∀ l i b v k, getB top H (l + 1) i = some b → b.live = true → m0.ρ (l + 1) i = some v → blkOf v = some k → k < m0.w.heap.size)
    (fin : ∀ m, St H { m0 with ds := a.defers } m a tm top → (∃ ds, Calm H m0 m ds top V) → ∃ v, (results fn a.tmps).run P m.w = .ok v m.w ∧ R (.returned v) m.w) :
    ∀ (ds : List Deferred) (m : M), St H { m0 with ds := a.defers } m a tm top → Calm H m0 m ds top V → LeavesInM Fence.wide 0 P fn a.tmps R ds .returning m.w
  | [], m, hs, hc => fin m hs ⟨_, hc⟩
  | d :: ds, m, hs, hc => by
    obtain ⟨D, hd, q⟩ := hc.d d (List.mem_cons_self ..)
    have hlate := hc.late hrnd d (List.mem_cons_self ..) D hd
    have hnd := List.nodup_cons.1 hc.nd
    have hc' : Calm H m0 m ds top V := ⟨hc.one, hc.used, hc.more, hc.old, hc.mine, hc.gen, hc.z, hnd.2, fun h d hd => hc.late h d (List.mem_cons_of_mem _ hd), fun d hd => hc.d d (List.mem_cons_of_mem _ hd)⟩
    obtain ⟨r1, r2, _⟩ := full_obj (m0 := { m0 with ds := a.defers }) hs (ds := ds) ⟨hc'.one, hc'.used, hc'.more, hc'.old, hc'.mine, hc'.gen, hc'.z, hc'.nd, hc'.late, hc'.d⟩ q (fun l i b v e1 e2 e3 e4 => by
      cases l with
      | zero => exact q.mine ⟨i, b, v, e1, e2, e3, e4⟩
      | succ l =>
        have h9 : m0.ρ (l + 1) i = some v := by rw [← hs.since.up]; exact e3
        have := hH l i b v D e1 e2 h9 e4
        omega) hlate (fun k o hk => by rw [show (M0.Z { m0 with ds := a.defers }) k = m0.Z k from rfl, hz] at hk; cases hk) (fun d' hd' e => hnd.1 (by rw [hd, ← e]; exact hd')) (.deferred none)
    subst hd
    refine ⟨by simp, .inl ⟨D, _, rfl, run_takeDeferred q.heap, ?_⟩⟩
    exact leaves_spec hz hrnd hH fin ds ⟨m.w.putObj D (.deferred none), m.ρ, m.U⟩ r1 ⟨r2.one, r2.used, r2.more, r2.old, r2.mine, r2.gen, r2.z, r2.nd, r2.late, r2.d⟩

theorem good_draws {C : Cx} (hC : C.Ok) {f : Nat} (hg : C.good f = true) {fn : Func} {c : Code} (hf : C.P.funcs[f]? = some fn) (hb : fn.body = some c) : drawsOk C.give c = true := by
  have := hC.draws
  unfold goodB at this
  rw [List.all_eq_true] at this
  simp only [Cx.good, Bool.and_eq_true, Bool.not_eq_true'] at hg
  have := this f (List.mem_range.2 (by simpa [Nat.blt_eq] using hg.1))
  rw [hg.2, Bool.false_or, hf] at this
  simpa [hb] using this

/-- A body, and what its end is to say. -/
theorem run_spec {C : Cx} (hC : C.Ok) {H : List (List Blk)} {f : Nat} {fn : Func} {c : Code} {top0 : List Blk} {args : List PV} {K : Exit → List PV → List Blk → Prop} {V : Nat → Prop}
    {mo : List (Nat × Tr)} (hg : drawsM C.give mo c = true) (hf : C.P.funcs[f]? = some fn) (hb : fn.body = some c) (h : padK args fn.ntmps fun tm => wpM C H mo c K tm top0)
    (m : M) (vs : Array Value) (hinv : Inv m top0 H) (hfree : ∀ i, top0.length ≤ i → m.ρ 0 i = none) (hlen : args.length = vs.size) (hargs : ∀ (j : Nat) p v, args[j]? = some p → vs[j]? = some v → RP m p v)
    (m0 : M0) (h0 : m0 = { toM := m, g := top0, V := V, Z := fun _ => none, W := fun _ => True, A := fun _ => none, ds := [], tsz := fn.ntmps, rnd := false })
    (hcalm : Calm H m0 m [] top0 V) {R : Ending → World → Prop}
    (fin : ∀ e, (e = .normal ∨ e = .ret) → ∀ tm top m' a V', K e tm top → St H { m0 with ds := a.defers } m' a tm top → (∃ ds, Calm H m0 m' ds top V') → ∃ v, (results fn a.tmps).run C.P m'.w = .ok v m'.w ∧ R (.returned v) m'.w)
    (hno : ∀ e tm top, okE e = true → K e tm top → e = .normal ∨ e = .ret) : Calls C.P f vs m.w R := by
  obtain ⟨hle, h⟩ := padK_spec h
  rw [← callsIn_wide (n := 0)]
  have hH : ∀ top l i b v k, getB top H (l + 1) i = some b → b.live = true → m0.ρ (l + 1) i = some v → blkOf v = some k → k < m0.w.heap.size := fun top l i b v k e1 e2 e3 e4 => by
    subst h0
    exact hinv.lt k (hinv.own (l + 1) i b v k e1 e2 e3 e4)
  refine callsIn_of_wp_marks hf hb trivial (wpIn_mono (wpC_sound hC c hg none m0 K _ _ m { tmps := vs ++ Array.replicate (fn.ntmps - vs.size) undef, defers := [] } (fun l e => by cases e) (fun d _ => by subst h0; trivial) h ⟨⟨hinv, ?_, fun j p v hp hv => ?_, rfl, fun j hj => hfree j hj, ?_, ?_, fun j hj => absurd trivial (by subst h0; exact hj)⟩, V, hcalm⟩) ?_)
  · simp [hlen]
  · rcases Nat.lt_or_ge j args.length with h1 | h1
    · rw [List.getElem?_append_left h1] at hp
      rw [Array.getElem?_append_left (by omega)] at hv
      exact hargs j p v hp hv
    · rw [List.getElem?_append_right h1] at hp
      have := List.mem_of_getElem? hp
      rw [List.mem_replicate] at this
      rw [this.2]; exact .any _
  · subst h0; exact ⟨rfl, rfl, rfl, Nat.le_refl _, fun _ _ _ _ => rfl, fun _ _ => rfl, fun _ _ => Iff.rfl, fun k hk => .inr hk⟩
  · subst h0; simp; omega
  · rintro e a w ⟨hok, tm, top, m', rfl, hk, hs, V', hc⟩
    have hz : ∀ k, m0.Z k = none := by subst h0; intro k; rfl
    have hrnd : m0.rnd = false := by subst h0; rfl
    rcases hno e tm top hok hk with rfl | rfl
    · exact leaves_spec hz hrnd (hH top) (fun m hs hc => fin .normal (.inl rfl) tm top m a V' hk hs hc) a.defers m' hs hc
    · exact leaves_spec hz hrnd (hH top) (fun m hs hc => fin .ret (.inr rfl) tm top m a V' hk hs hc) a.defers m' hs hc

theorem body_spec {C : Cx} (hC : C.Ok) {H : List (List Blk)} {f : Nat} {fn : Func} {c : Code} {G : List RowB} {args : List PV} {r : PV} {N : List RowB}
    {mo : List (Nat × Tr)} (hg : drawsM C.give mo c = true) (hf : C.P.funcs[f]? = some fn) (hb : fn.body = some c) (h : padK args fn.ntmps fun tm => wpM C H mo c (retK C H fn.results.toList r N) tm (G.map RowB.blk))
    (m : M) (vs : Array Value) (hinv : Inv m (G.map RowB.blk) H) (hfree : ∀ i, G.length ≤ i → m.ρ 0 i = none) (hlen : args.length = vs.size) (hargs : ∀ (j : Nat) p v, args[j]? = some p → vs[j]? = some v → RP m p v) :
    Calls C.P f vs m.w fun e w' => ∃ (v : Value) (m2 : M), e = .returned v ∧ m2.w = w' ∧ (∀ i, N.length ≤ i → m2.ρ 0 i = none) ∧ Since (M0.of m (G.map RowB.blk)) m2 (N.map RowB.blk) ∧ Inv m2 (N.map RowB.blk) H ∧ RP m2 r v := by
  refine run_spec hC hg hf hb h m vs hinv (fun i hi => hfree i (by simpa using hi)) hlen hargs _ rfl (V := fun _ => False) ?_ ?_ ?_
  · have ng : ∀ (i : Nat) Y st, (G.map RowB.blk)[i]? = some (.gen Y st) → False := fun i Y st hi => by
      rw [List.getElem?_map] at hi
      obtain ⟨r, _, hr⟩ := Option.map_eq_some_iff.1 hi
      have := r.noGen
      rw [hr] at this; cases this
    exact ⟨fun i j Y st Y' st' h1 _ => (ng i Y st h1).elim, fun k h => h.elim, fun k h => h, fun k h _ => h, fun k h => h.elim, fun i Y st h => (ng i Y st h).elim, (fun k o h => by cases h), List.nodup_nil, fun _ d hd => (by cases hd), fun d hd => (by cases hd)⟩
  · rintro e he tm top m' a V' hk hs _
    have hk : resK C H tm top fn.results.toList fun ps => oneK ps fun p => ∃ s, nodupB s = true ∧ refP s s.length top.length p r ∧ refN top s N := by rcases he with rfl | rfl <;> exact hk
    obtain ⟨v, hrun, m2, hw, h0, h1, h2, h3⟩ := ret_spec hC hs hk
    exact ⟨v, hrun, v, m2, rfl, hw, h0, ⟨h1.os, h1.tape, h1.output, h1.size, fun k hk hm hv => h1.heap k hk hm (fun h => h), h1.up, h1.U, h1.fresh⟩, h2, h3⟩
  · intro e tm top _ hk
    cases e <;> first | exact .inl rfl | exact .inr rfl | exact hk.elim

theorem callEq_of_bodyM {C : Cx} (hC : C.Ok) {H : List (List Blk)} {f : Nat} {fn : Func} {c : Code} {args : List PV} {r : PV} {N : List RowB}
    {mo : List (Nat × Tr)} (hg : drawsM C.give mo c = true) (hf : C.P.funcs[f]? = some fn) (hb : fn.body = some c) (h : padK args fn.ntmps fun tm => wpM C H mo c (retK C H fn.results.toList r N) tm []) : CallEq C H f args r N := by
  unfold CallEq
  intro m vs hinv hfree hlen hargs
  refine (body_spec hC (G := []) hg hf hb h m vs hinv (fun i _ => hfree i) hlen hargs).mono ?_
  rintro e w' ⟨v, m2, rfl, rfl, hfr, t, hi, hr⟩
  have nm : ∀ k, ¬ Mine m [] k := fun k ⟨i, b, v, h, _⟩ => by simp at h
  refine ⟨v, m2, rfl, rfl, ⟨t.os, t.tape, t.output, t.size, fun k hk => t.heap k hk (nm k) (fun h => h), fun l i v hv => ?_, t.U⟩, t.up, fun j u k hu hk => ?_, hi, hr⟩
  · cases l with
    | zero => rw [hfree i] at hv; cases hv
    | succ l => exact (t.up l i).trans hv
  · have hj : j < N.length := by
      rcases Nat.lt_or_ge j N.length with h | h
      · exact h
      · rw [hfr j h] at hu; cases hu
    exact (t.fresh k ⟨j, (N[j]).blk, u, by simp [hj], RowB.live _, hu, hk⟩).resolve_right (nm k)

theorem callEq_of_body {C : Cx} (hC : C.Ok) {H : List (List Blk)} {f : Nat} {fn : Func} {c : Code} {args : List PV} {r : PV} {N : List RowB}
    (hg : C.good f = true) (hf : C.P.funcs[f]? = some fn) (hb : fn.body = some c) (h : padK args fn.ntmps fun tm => wpC C H c (retK C H fn.results.toList r N) tm []) : CallEq C H f args r N :=
  callEq_of_bodyM hC (mo := []) ((draws_nil _ _).trans (good_draws hC hg hf hb)) hf hb h

/-- A function to which rows are given for good. -/
theorem callEqG_of_bodyM {C : Cx} (hC : C.Ok) {H : List (List Blk)} {f : Nat} {fn : Func} {c : Code} {G : List RowB} {args : List PV} {r : PV} {N : List RowB}
    {mo : List (Nat × Tr)} (hg : drawsM C.give mo c = true) (hf : C.P.funcs[f]? = some fn) (hb : fn.body = some c) (h : padK args fn.ntmps fun tm => wpM C H mo c (retK C H fn.results.toList r N) tm (blksOf G)) : CallEqG C H f G args (G.map fun _ => none) r N := by
  rw [blksOf_eq] at h
  unfold CallEqG
  refine ⟨by simp, fun m vs hinv hfree hlen hargs => ?_⟩
  refine (body_spec hC (G := G) hg hf hb h m vs hinv hfree hlen hargs).mono ?_
  · rintro e w' ⟨v, m', rfl, rfl, hl, t, hi, hr⟩
    let m2 : M := ⟨m'.w, fun l i => match l with | 0 => if i < N.length then m'.ρ 0 i else m.ρ 0 (i - N.length) | l + 1 => m'.ρ (l + 1) i, m'.U⟩
    have hlo : ∀ i, i < N.length → m2.ρ 0 i = m'.ρ 0 i := fun i hi => by show (if i < N.length then _ else _) = _; rw [if_pos hi]
    have hhi : ∀ i, m2.ρ 0 (N.length + i) = m.ρ 0 i := fun i => by show (if N.length + i < N.length then _ else m.ρ 0 (N.length + i - N.length)) = _; rw [if_neg (by omega), show N.length + i - N.length = i by omega]
    have hK : Keep m' m2 := by
      refine ⟨fun l i u hu => ?_, Nat.le_refl _, fun k hk => ⟨hk.2, rfl⟩⟩
      cases l with
      | succ l => exact hu
      | zero =>
        rw [hlo]
        · exact hu
        · rcases Nat.lt_or_ge i N.length with h | h
          · exact h
          · rw [hl i h] at hu; cases hu
    have get : ∀ l i b, getB (N.map RowB.blk ++ (G.map fun _ => (none : Option RowB)).map gblk) H l i = some b → b.live = true → getB (N.map RowB.blk) H l i = some b ∧ m2.ρ l i = m'.ρ l i := by
      intro l i b hb hlv
      cases l with
      | succ l => exact ⟨hb, rfl⟩
      | zero =>
        simp only [getB] at hb ⊢
        rcases Nat.lt_or_ge i N.length with h | h
        · rw [List.getElem?_append_left (by simpa using h)] at hb
          exact ⟨hb, hlo i h⟩
        · rw [List.getElem?_append_right (by simpa using h)] at hb
          simp only [List.map_map, List.getElem?_map] at hb
          obtain ⟨r, _, rfl⟩ := Option.map_eq_some_iff.1 hb
          cases hlv
    refine ⟨v, m2, rfl, rfl, ⟨t.os, t.tape, t.output, t.size, t.heap, t.up, t.U, fun k hk => ?_⟩, fun i _ => hhi i, ⟨fun l i b hb => ?_, fun l i b l' i' b' v v' k h1 h2 h3 h4 h5 h6 => ?_, fun l i b v k h1 h2 h3 => ?_, hi.lt⟩, hr.keep hK⟩
    · obtain ⟨j, b, u, e1, e2, e3, e4⟩ := hk
      obtain ⟨a1, a2⟩ := get 0 j b (by simpa [getB] using e1) e2
      exact t.fresh k ⟨j, b, u, a1, e2, a2 ▸ e3, e4⟩
    · cases hlv : b.live with
      | false => cases b <;> simp [Blk.live] at hlv <;> exact True.intro
      | true =>
        obtain ⟨h1, h2⟩ := get l i b hb hlv
        exact (hi.blk l i b h1).keep hK h2 (fun _ _ _ _ _ => rfl)
    · obtain ⟨a1, a2⟩ := get l i b h1 h2
      obtain ⟨b1, b2⟩ := get l' i' b' h3 h4
      exact hi.inj l i b l' i' b' v v' k a1 h2 b1 h4 (a2 ▸ h5) (b2 ▸ h6)
    · obtain ⟨a1, a2⟩ := get l i b h1 h2
      exact hi.own l i b v k a1 h2 (a2 ▸ h3)
theorem callEqG_of_body {C : Cx} (hC : C.Ok) {H : List (List Blk)} {f : Nat} {fn : Func} {c : Code} {G : List RowB} {args : List PV} {r : PV} {N : List RowB}
    (hg : C.good f = true) (hf : C.P.funcs[f]? = some fn) (hb : fn.body = some c) (h : padK args fn.ntmps fun tm => wpC C H c (retK C H fn.results.toList r N) tm (blksOf G)) : CallEqG C H f G args (G.map fun _ => none) r N :=
  callEqG_of_bodyM hC (mo := []) ((draws_nil _ _).trans (good_draws hC hg hf hb)) hf hb h

/-! ### iterators -/
def iterK (Y : Yield) : Exit → List PV → List Blk → Prop := fun e _ top =>
  match e with
  | .normal => genK top 0 fun _ Y' st => Y' = Y ∧ (match st with | some k => k = Y.xs.length | none => True)
  | .ret => genK top 0 fun _ Y' st => Y' = Y ∧ (match st with | some k => k = Y.xs.length | none => True)
  | _ => False
theorem iterEq_of_bodyM {C : Cx} (hC : C.Ok) {f : Nat} {fn : Func} {c : Code} {G : List RowB} {args : List PV} {xs : List (List YV)}
    {mo : List (Nat × Tr)} (hg : drawsM C.give mo c = true) (hf : C.P.funcs[f]? = some fn) (hb : fn.body = some c) (hres : fn.results = #[])
    (h : ∀ Y : Yield, Y.P = C.P → Y.xs = xs → padK (.yld Y :: args) fn.ntmps fun tm => wpM C [] mo c (iterK Y) tm (blksOf G ++ [.gen Y (some 0)])) : IterEq C f G args xs := by
  unfold IterEq
  intro Y V m vs y hP hxs hY hinv hfree hlen hargs hVU hVm hJ
  have hB := blksOf_eq G
  have ng : ∀ (i : Nat) Y st, (G.map RowB.blk)[i]? = some (.gen Y st) → False := fun i Y st hi => by
    rw [List.getElem?_map] at hi
    obtain ⟨r, _, hr⟩ := Option.map_eq_some_iff.1 hi
    have := r.noGen
    rw [hr] at this; cases this
  have get : ∀ (i : Nat) b, (blksOf G ++ [.gen Y (some 0)])[i]? = some b → (G.map RowB.blk)[i]? = some b ∨ (i = G.length ∧ b = .gen Y (some 0)) := fun i b hi => by
    rw [hB] at hi
    rcases Nat.lt_or_ge i (G.map RowB.blk).length with h1 | h1
    · rw [List.getElem?_append_left h1] at hi; exact .inl hi
    · rw [List.getElem?_append_right h1] at hi
      have h2 := (List.getElem?_eq_some_iff.1 hi).1
      simp at h2 h1
      have : i = G.length := by omega
      subst this
      simp at hi
      exact .inr ⟨rfl, hi.symm⟩
  have mineLe : ∀ k, Mine m (blksOf G ++ [.gen Y (some 0)]) k → Mine m (G.map RowB.blk) k := by
    rintro k ⟨i, b, v, h1, h2, h3, h4⟩
    rcases get i b h1 with h1 | ⟨_, rfl⟩
    · exact ⟨i, b, v, h1, h2, h3, h4⟩
    · cases h2
  have hinv' : Inv m (blksOf G ++ [.gen Y (some 0)]) [] := by
    have old : ∀ l i b, getB (blksOf G ++ [.gen Y (some 0)]) [] l i = some b → b.live = true → getB (G.map RowB.blk) [] l i = some b := fun l i b h1 h2 => by
      cases l with
      | succ l => simp [getB] at h1
      | zero =>
        simp only [getB] at h1 ⊢
        rcases get i b h1 with h1 | ⟨_, rfl⟩
        · exact h1
        · cases h2
    refine ⟨fun l i b h1 => ?_, fun l i b l' i' b' v v' k h1 h2 h3 h4 h5 h6 h7 h8 => hinv.inj l i b l' i' b' v v' k (old l i b h1 h2) h2 (old l' i' b' h3 h4) h4 h5 h6 h7 h8, fun l i b v k h1 h2 h3 h4 => hinv.own l i b v k (old l i b h1 h2) h2 h3 h4, hinv.lt⟩
    cases hlv : b.live with
    | false => cases b <;> simp [Blk.live] at hlv <;> exact True.intro
    | true => exact hinv.blk l i b (old l i b h1 hlv)
  refine run_spec hC hg hf hb (h Y hP hxs) m (#[y] ++ vs) hinv' (fun i hi => hfree i (by rw [hB] at hi; simp at hi; omega)) (by simp [hlen]; omega) (fun j p v hp hv => ?_) _ rfl (V := V) ?_ ?_ ?_
  · cases j with
    | zero =>
      rw [Array.getElem?_append_left (by simp)] at hv
      simp at hp hv; subst hp; subst hv; exact .yld Y _ hY
    | succ j =>
      refine hargs j p v (by simpa using hp) ?_
      rw [Array.getElem?_append_right (by simp)] at hv
      simpa using hv
  · refine ⟨fun i j Y1 st1 Y2 st2 h1 h2 => ?_, hVU, fun k h => h, fun k h _ => h, fun k hk hm => hVm k hk (mineLe k hm), fun i Y1 st1 h1 => ?_, (fun k o h => by cases h), List.nodup_nil, fun _ d hd => (by cases hd), fun d hd => (by cases hd)⟩
    · rcases get i _ h1 with h1 | ⟨rfl, _⟩
      · exact (ng i Y1 st1 h1).elim
      · rcases get j _ h2 with h2 | ⟨rfl, _⟩
        · exact (ng j Y2 st2 h2).elim
        · rfl
    · rcases get i _ h1 with h1 | ⟨_, h1⟩
      · exact (ng i Y1 st1 h1).elim
      · cases h1; exact ⟨rfl, hY.1, hJ⟩
  · rintro e he tm top m' a V' hk hs ⟨ds, hc⟩
    have hk : genK top 0 fun _ Y' st => Y' = Y ∧ (match st with | some k => k = Y.xs.length | none => True) := by rcases he with rfl | rfl <;> exact hk
    obtain ⟨i, Y', st, ⟨rfl, hst⟩, hb'⟩ := genK_spec top 0 _ hk
    obtain ⟨_, _, hJ'⟩ := hc.gen i _ st hb'
    have hr0 : fn.results.toList = [] := by rw [hres]
    refine ⟨.tuple #[], results_run (vs := []) (by rw [hr0]; simp), _, m'.U, V', st, rfl, hs.since.os, hs.since.tape, hs.since.output, hs.since.size, hs.since.U, fun k hk hm hv => hs.since.heap k hk (fun h => hm (mineLe k h)) hv, fun k h => hc.more k h, fun k h => ?_, hc.used, hs.inv.lt, hJ', ?_⟩
    · rcases Nat.lt_or_ge k m.w.heap.size with h1 | h1
      · exact .inl (hc.old k h h1)
      · exact .inr h1
    · cases st with
      | none => exact .inr rfl
      | some k => exact .inl (by rw [hst, hxs])
  · intro e tm top _ hk
    cases e <;> first | exact .inl rfl | exact .inr rfl | exact hk.elim
theorem iterEq_of_body {C : Cx} (hC : C.Ok) {f : Nat} {fn : Func} {c : Code} {G : List RowB} {args : List PV} {xs : List (List YV)} (hg : C.good f = true) (hf : C.P.funcs[f]? = some fn) (hb : fn.body = some c) (hres : fn.results = #[])
    (h : ∀ Y : Yield, Y.P = C.P → Y.xs = xs → padK (.yld Y :: args) fn.ntmps fun tm => wpC C [] c (iterK Y) tm (blksOf G ++ [.gen Y (some 0)])) : IterEq C f G args xs :=
  iterEq_of_bodyM hC (mo := []) ((draws_nil _ _).trans (good_draws hC hg hf hb)) hf hb hres h
end Go.Proofs.Ve

/- New rows of a call, seen as plain data from then on. -/
set_option linter.all false
namespace Go.Proofs.Ve
open Go

def fz (N : List RowB) (k : Nat) : PV → PV :=
  Nat.rec (motive := fun _ => PV → PV) (fun _ => .any) (fun _ ih p => match p with
    | .row 0 i n => (match N[i]? with | some r => (match Nat.beq r.sz 0 with | true => .any | false => .d (.sl (r.xs.take n))) | none => .any)
    | .agg cs => .agg (cs.map ih)
    | .tuple cs => .tuple (cs.map ih)
    | .kb b => .kb b
    | .ub => .ub
    | .d x => .d x
    | .nils => .nils
    | .iptr cs => .iptr cs
    | _ => .any) k
def froM (m : M) (n : Nat) : M := ⟨m.w, fun l i => match l with | 0 => none | l + 1 => m.ρ (l + 1) i, fun k => m.U k ∧ ¬ ∃ i v, i < n ∧ m.ρ 0 i = some v ∧ blkOf v = some k⟩
theorem fro_ok {m : M} {n k : Nat} (h : m.ok k) : (froM m n).ok k := ⟨h.1, fun hu => h.2 hu.1⟩
theorem fz_rp {m : M} {N : List RowB} {H : List (List Blk)} (hi : Inv m (N.map RowB.blk) H) : ∀ (k : Nat) (p : PV) (v : Value), RP m p v → RP (froM m N.length) (fz N k p) v
  | 0, p, v, h => .any _
  | k + 1, p, v, h => by
    cases h with
    | any v => exact .any v
    | yld Y => exact .any _
    | kb b => exact .kb b
    | ub b => exact .ub b
    | d x v h => exact .d _ _ (h.mono fun k hk => ⟨fro_ok hk, rfl⟩)
    | nils => exact .nils
    | row l i n A0 c A hρ hn hc =>
      cases l with
      | succ l => exact .any _
      | zero =>
        change RP _ (match N[i]? with | some r => (match Nat.beq r.sz 0 with | true => .any | false => PV.d (.sl (r.xs.take n))) | none => .any) _
        cases hN : N[i]? with
        | none => exact .any _
        | some r =>
          have hil : i < N.length := (List.getElem?_eq_some_iff.1 hN).1
          show RP _ (match Nat.beq r.sz 0 with | true => .any | false => PV.d (.sl (r.xs.take n))) _
          cases hz : Nat.beq r.sz 0 with
          | true => exact .any _
          | false =>
          exact .d _ _ (own_rd (i := i) (e := r.e) (sz := r.sz) hi (by rw [List.getElem?_map, hN]; unfold RowB.blk; rw [Option.map_some, hz]) hρ hn hc rfl (fun k hk => fro_ok hk) (fun k hk hu => hu.2 ⟨i, _, hil, hρ, hk⟩))
    | ptr l i o g hρ => exact .any _
    | rptr l i sz e j g A0 c hρ => exact .any _
    | iptr cs ad u hc hr => exact RP.other (m := m) (m' := froM m N.length) rfl (fun _ h => h.1) rfl (.iptr cs ad u hc hr)
    | func fn fs cs fv cv h1 h2 h3 h4 => exact .any _
    | agg cs vs h1 h2 =>
      refine .agg _ _ (by simp [h1]) (fun j p v hp hv => ?_)
      rw [List.getElem?_map] at hp
      obtain ⟨q, hq, rfl⟩ := Option.map_eq_some_iff.1 hp
      exact fz_rp hi k q v (h2 j q v hq hv)
    | tuple cs vs h1 h2 =>
      refine .tuple _ _ (by simp [h1]) (fun j p v hp hv => ?_)
      rw [List.getElem?_map] at hp
      obtain ⟨q, hq, rfl⟩ := Option.map_eq_some_iff.1 hp
      exact fz_rp hi k q v (h2 j q v hq hv)
/-- New rows that nobody turns any more are plain data. -/
theorem CallEq.freeze {C : Cx} {H : List (List Blk)} {f : Nat} {args : List PV} {r : PV} {N : List RowB} (h : CallEq C H f args r N) (k : Nat) {r' : PV} (hr : fz N k r = r') : CallEq C H f args r' [] := by
  subst hr
  unfold CallEq at h ⊢
  intro m vs hinv hfree hlen hargs
  refine (h m vs hinv hfree hlen hargs).mono ?_
  rintro e w' ⟨v, m', rfl, rfl, hg, hup, hfr, hi, hr⟩
  refine ⟨v, froM m' N.length, rfl, rfl, ⟨hg.os, hg.tape, hg.output, hg.size, hg.heap, fun l i u hu => ?_, fun j hj => ?_⟩, fun l i => hup l i, (fun j u k hu => by cases hu), ⟨fun l i b hb => ?_, fun l i b l' i' b' u u' j h1 h2 h3 h4 h5 h6 h7 h8 => ?_, fun l i b u j h1 h2 h3 h4 => ?_, fun j hj => hi.lt j hj.1⟩, fz_rp hi k r v hr⟩
  · cases l with
    | zero => rw [hfree i] at hu; cases hu
    | succ l => exact (hup l i).trans hu
  · refine Iff.trans ⟨fun hu => hu.1, fun hu => ⟨hu, ?_⟩⟩ (hg.U j hj)
    rintro ⟨i, u, _, hu, hk⟩
    have := hfr i u j hu hk
    omega
  · cases l with
    | zero => simp [getB] at hb
    | succ l =>
      have hbo := hi.blk (l + 1) i b hb
      cases b with
      | dead => trivial
      | gen Y st => trivial
      | row e sz xs =>
        intro u hu
        obtain ⟨a1, a2, flat, a3, a4⟩ := hbo u hu
        exact ⟨a1, a2, flat, a3, fun i x j y u hx hy hu => (a4 i x j y u hx hy hu).mono fun k hk => ⟨fro_ok hk, rfl⟩⟩
      | box cs =>
        intro u hu
        obtain ⟨g, us, e, q1, q2, q3, q4⟩ := hbo u hu
        refine ⟨g, us, e, q1, q2, q3, fun j p x hp hx => ?_⟩
        have K : Keep (m'.up (l + 1)) ((froM m' N.length).up (l + 1)) := ⟨fun a i' u' hu' => hu', Nat.le_refl _, fun k hk => ⟨fun hu => hk.2 hu.1, rfl⟩⟩
        exact (q4 j p x hp hx).keep K
  · cases l with
    | zero => simp [getB] at h1
    | succ l =>
      cases l' with
      | zero => simp [getB] at h3
      | succ l' => exact hi.inj (l + 1) i b (l' + 1) i' b' u u' j h1 h2 h3 h4 h5 h6 h7 h8
  · cases l with
    | zero => simp [getB] at h1
    | succ l =>
      refine ⟨hi.own (l + 1) i b u j h1 h2 h3 h4, ?_⟩
      rintro ⟨i', u', hi', hu', hk'⟩
      have hN : getB (N.map RowB.blk) H 0 i' = some (N[i']).blk := by simp [getB, hi']
      have := hi.inj (l + 1) i b 0 i' _ u u' j h1 h2 hN (RowB.live _) h3 hu' h4 hk'
      cases this.1
end Go.Proofs.Ve

/-
  DERIVED: THE SHELF's CONTRACTS AT THIS DUMP, IN PLAIN WORDS (tools/lay-plain.mjs out of 'TryShelf.lean', which tools/lay-shelf.mjs wrote): THE SAME DECLARATIONS UNDER THE SAME NAMES: 'import', 'namespace', 'open', 'def', 'theorem' AND NOTHING ELSE: no command of the shelf's: FOR A HAND-IN. Each laying: the table of numbers ('.._ren') and one theorem, a field a fact of the dump's own or the kernel's comparison; each contract: ONE APPLICATION.
-/
namespace Go.Proofs
open Go.Shelf
def Try.laysNm220_ren : Go.Shelf.Ren := ⟨fun | 20 => 85 | n => n, fun | 22 => 34 | 3 => 3 | 4 => 4 | 0 => 0 | n => n, fun | n => n⟩
theorem Try.laysNm220 : Go.Proofs.Lays2.n20 Try.prog Try.laysNm220_ren := {
  mixed := by kernel_rfl
  f20 := Try.func85.trans (congrArg some (by kernel_rfl))
  t0 := Try.underlying0
  a0 := Try.isAgg0
  z0 := Try.sizeOf0
  v0 := Try.zeroValue0
  t3 := Try.underlying3
  a3 := Try.isAgg3
  z3 := Try.sizeOf3
  v3 := Try.zeroValue3
  t4 := Try.underlying4
  a4 := Try.isAgg4
  z4 := Try.sizeOf4
  v4 := Try.zeroValue4
  t22 := Try.underlying34
  a22 := Try.isAgg34
  z22 := Try.sizeOf34
  v22 := Try.zeroValue34
  i3 := by kernel_rfl }
open Go.RowKit Go.Lib Go.Sort in
theorem Try.slices_Compact_int_arr (blk off cap : Nat) (d : Array Int) (w : World) (hH : Holds encI w blk off d) (hsz : d.size ≤ 9223372036854775807) (hcap : d.size ≤ cap) :
    Calls Try.prog 85 #[.slice (some ⟨blk, off, none⟩) d.size cap] w fun e w' => e = .returned (.slice (some ⟨blk, off, none⟩) (compactUpTo d d.size).length cap) ∧ ∃ q, w' = putRow encI (Sort.ahead w q) blk off (compactUpTo d d.size ++ List.replicate (d.size - (compactUpTo d d.size).length) 0).toArray := Any.slices_Compact_int_arr Try.laysNm220 blk off cap d w hH hsz hcap
open Go.RowKit Go.Lib Go.Sort in
theorem Try.slices_Compact_int (blk off cap : Nat) (zs : List Int) (w : World) (hH : Holds (Value.int .i64) w blk off zs.toArray) (hsz : zs.length ≤ 9223372036854775807) (hcap : zs.length ≤ cap) :
    Calls Try.prog 85 #[.slice (some ⟨blk, off, none⟩) zs.length cap] w fun e w' => e = .returned (.slice (some ⟨blk, off, none⟩) (Lib.compact zs).length cap) ∧ ∃ q, w' = putRow (Value.int .i64) (Sort.ahead w q) blk off (Lib.compact zs ++ List.replicate (zs.length - (Lib.compact zs).length) 0).toArray := Any.slices_Compact_int Try.laysNm220 blk off cap zs w hH hsz hcap
open Go.RowKit Go.Lib Go.Sort in
theorem Try.slices_Compact_int_empty (a : Option Addr) (cap : Nat) (w : World) :
    Calls Try.prog 85 #[.slice a 0 cap] w fun e w' => e = .returned (.slice a 0 cap) ∧ w' = w := Any.slices_Compact_int_empty Try.laysNm220 a cap w
open Go.RowKit Go.Lib Go.Sort in
theorem Try.slices_Compact_int_cells (b off n c : Nat) (zs : List Int) (w : World) (hz : n ≤ zs.length) (hbig : n ≤ 9223372036854775807) (hcap : n ≤ c) (hc : ∀ j, j < zs.length → w.cell? ⟨b, off + j, none⟩ = some (.int .i64 (zs.getD j 0))) (hf : ∀ j, j < n → w.frozen? ⟨b, off + j, none⟩ = false) :
    Calls Try.prog 85 #[.slice (some ⟨b, off, none⟩) n c] w fun e w' => e = .returned (.slice (some ⟨b, off, none⟩) (Lib.compact (zs.take n)).length c) ∧ ∃ q, w' = (w.drewN q).setCells b off ((Lib.compact (zs.take n) ++ List.replicate (n - (Lib.compact (zs.take n)).length) 0).map (Value.int .i64)) := Any.slices_Compact_int_cells Try.laysNm220 b off n c zs w hz hbig hcap hc hf
def Try.lays189_ren : Go.Shelf.Ren := ⟨fun | 189 => 64 | 125 => 105 | 257 => 104 | 128 => 126 | 129 => 127 | 294 => 117 | 295 => 118 | 296 => 119 | 297 => 120 | 298 => 121 | 299 => 122 | 216 => 123 | 300 => 124 | 301 => 125 | 328 => 129 | 329 => 130 | 330 => 131 | 331 => 132 | 332 => 133 | 215 => 134 | 343 => 135 | n => n, fun | 28 => 34 | 3 => 3 | 46 => 121 | 0 => 0 | 51 => 136 | 53 => 138 | 4 => 4 | 183 => 130 | 182 => 129 | 131 => 53 | 5 => 5 | 9 => 9 | 218 => 140 | 222 => 144 | 228 => 146 | 229 => 147 | n => n, fun | n => n⟩
theorem Try.lays189 : Go.Proofs.Lays.n189 Try.prog Try.lays189_ren := {
  mixed := by kernel_rfl
  f125 := Try.func105.trans (congrArg some (by kernel_rfl))
  f128 := Try.func126.trans (congrArg some (by kernel_rfl))
  f129 := Try.func127.trans (congrArg some (by kernel_rfl))
  f189 := Try.func64.trans (congrArg some (by kernel_rfl))
  f215 := Try.func134.trans (congrArg some (by kernel_rfl))
  f216 := Try.func123.trans (congrArg some (by kernel_rfl))
  f257 := Try.func104.trans (congrArg some (by kernel_rfl))
  f294 := Try.func117.trans (congrArg some (by kernel_rfl))
  f295 := Try.func118.trans (congrArg some (by kernel_rfl))
  f296 := Try.func119.trans (congrArg some (by kernel_rfl))
  f297 := Try.func120.trans (congrArg some (by kernel_rfl))
  f298 := Try.func121.trans (congrArg some (by kernel_rfl))
  f299 := Try.func122.trans (congrArg some (by kernel_rfl))
  f300 := Try.func124.trans (congrArg some (by kernel_rfl))
  f301 := Try.func125.trans (congrArg some (by kernel_rfl))
  f328 := Try.func129.trans (congrArg some (by kernel_rfl))
  f329 := Try.func130.trans (congrArg some (by kernel_rfl))
  f330 := Try.func131.trans (congrArg some (by kernel_rfl))
  f331 := Try.func132.trans (congrArg some (by kernel_rfl))
  f332 := Try.func133.trans (congrArg some (by kernel_rfl))
  f343 := Try.func135.trans (congrArg some (by kernel_rfl))
  t0 := Try.underlying0
  a0 := Try.isAgg0
  z0 := Try.sizeOf0
  v0 := Try.zeroValue0
  t3 := Try.underlying3
  a3 := Try.isAgg3
  z3 := Try.sizeOf3
  v3 := Try.zeroValue3
  t4 := Try.underlying4
  a4 := Try.isAgg4
  z4 := Try.sizeOf4
  v4 := Try.zeroValue4
  t5 := Try.underlying5
  a5 := Try.isAgg5
  z5 := Try.sizeOf5
  v5 := Try.zeroValue5
  t9 := Try.underlying9
  a9 := Try.isAgg9
  z9 := Try.sizeOf9
  v9 := Try.zeroValue9
  t28 := Try.underlying34
  a28 := Try.isAgg34
  z28 := Try.sizeOf34
  v28 := Try.zeroValue34
  t46 := Try.underlying121
  a46 := Try.isAgg121
  z46 := Try.sizeOf121
  v46 := Try.zeroValue121
  t51 := Try.underlying136
  a51 := Try.isAgg136
  z51 := Try.sizeOf136
  v51 := Try.zeroValue136
  t53 := Try.underlying138
  a53 := Try.isAgg138
  z53 := Try.sizeOf138
  v53 := Try.zeroValue138
  t131 := Try.underlying53
  a131 := Try.isAgg53
  z131 := Try.sizeOf53
  v131 := Try.zeroValue53
  t182 := Try.underlying129
  a182 := Try.isAgg129
  z182 := Try.sizeOf129
  v182 := Try.zeroValue129
  t183 := Try.underlying130
  a183 := Try.isAgg130
  z183 := Try.sizeOf130
  v183 := Try.zeroValue130
  t218 := Try.underlying140
  a218 := Try.isAgg140
  z218 := Try.sizeOf140
  v218 := Try.zeroValue140
  t222 := Try.underlying144
  a222 := Try.isAgg144
  z222 := Try.sizeOf144
  v222 := Try.zeroValue144
  t228 := Try.underlying146
  a228 := Try.isAgg146
  z228 := Try.sizeOf146
  v228 := Try.zeroValue146
  t229 := Try.underlying147
  a229 := Try.isAgg147
  z229 := Try.sizeOf147
  v229 := Try.zeroValue147 }
open Go.RowKit Go.Sort in
theorem Try.slices_Sort_int_none (p : Option Addr) (cap : Nat) (w : World) :
    Calls Try.prog 64 #[.slice p 0 cap] w fun e w' => e = .returned (.tuple #[]) ∧ w' = w := Any.slices_Sort_int_none Try.lays189 p cap w
def Try.laysSlK4_ren : Go.Shelf.Ren := ⟨fun | 4 => 103 | n => n, fun | 22 => 25 | 4 => 4 | 5 => 5 | n => n, fun | n => n⟩
theorem Try.laysSlK4 : Go.Proofs.SlLaysK.n4 Try.prog Try.laysSlK4_ren := {
  mixed := by kernel_rfl
  f4 := Try.func103.trans (congrArg some (by kernel_rfl))
  t4 := Try.underlying4
  a4 := Try.isAgg4
  z4 := Try.sizeOf4
  v4 := Try.zeroValue4
  t22 := Try.underlying25
  a22 := Try.isAgg25
  z22 := Try.sizeOf25
  v22 := Try.zeroValue25
  t5 := Try.underlying5
  i5 := by kernel_rfl }
open Go.RowKit Go.Lib in
theorem Try.bytes_Clone_at (a : Addr) (n c : Nat) (xs : List Int) (w : World) (hx : xs.length = n) (hbig : n ≤ 140737488355328) (hc : ∀ i, i < n → w.cell? (a.add i) = some (.int .u8 (xs.getD i 0))) :
    Calls Try.prog 103 #[.slice (some a) n c] w fun e w' => ∃ v', e = .returned v' ∧ w'.ownsRow w.heap.size 5 1 v' n (xs.map (Value.int .u8)) ∧ v' ≠ .slice none 0 0 ∧ Below w.heap.size w w' := Any.bytes_Clone_at Try.laysSlK4 a n c xs w hx hbig hc
open Go.RowKit Go.Lib in
theorem Try.bytes_Clone_nil (n c : Nat) (w : World) :
    Calls Try.prog 103 #[.slice none n c] w fun e w' => e = .returned (.slice none 0 0) ∧ w' = w := Any.bytes_Clone_nil Try.laysSlK4 n c w
def Try.laysSlM5_f64_ren : Go.Shelf.Ren := ⟨fun | 5 => 64 | 8 => 105 | 7 => 104 | 19 => 126 | 20 => 127 | 10 => 117 | 11 => 118 | 12 => 119 | 13 => 120 | 14 => 121 | 15 => 122 | 16 => 123 | 17 => 124 | 18 => 125 | 30 => 129 | 31 => 130 | 32 => 131 | 33 => 132 | 34 => 133 | 35 => 134 | 40 => 135 | n => n, fun | 23 => 34 | 25 => 3 | 3 => 3 | 32 => 121 | 22 => 34 | 0 => 0 | 44 => 136 | 46 => 138 | 4 => 4 | 36 => 130 | 35 => 129 | 41 => 53 | 5 => 5 | 9 => 9 | 53 => 140 | 57 => 144 | 63 => 146 | 64 => 147 | n => n, fun | n => n⟩
theorem Try.laysSlM5_f64 : Go.Proofs.SlLaysM.n5 Try.prog Try.laysSlM5_f64_ren := {
  mixed := by kernel_rfl
  f5 := ⟨Try.f64.name, by decide, Try.func64.trans (congrArg some (by kernel_rfl))⟩
  f7 := ⟨Try.f104.name, by decide, Try.func104.trans (congrArg some (by kernel_rfl))⟩
  f8 := Try.func105.trans (congrArg some (by kernel_rfl))
  f10 := ⟨Try.f117.name, by decide, Try.func117.trans (congrArg some (by kernel_rfl))⟩
  f11 := ⟨Try.f118.name, by decide, Try.func118.trans (congrArg some (by kernel_rfl))⟩
  f12 := ⟨Try.f119.name, by decide, Try.func119.trans (congrArg some (by kernel_rfl))⟩
  f13 := ⟨Try.f120.name, by decide, Try.func120.trans (congrArg some (by kernel_rfl))⟩
  f14 := ⟨Try.f121.name, by decide, Try.func121.trans (congrArg some (by kernel_rfl))⟩
  f15 := ⟨Try.f122.name, by decide, Try.func122.trans (congrArg some (by kernel_rfl))⟩
  f16 := ⟨Try.f123.name, by decide, Try.func123.trans (congrArg some (by kernel_rfl))⟩
  f17 := ⟨Try.f124.name, by decide, Try.func124.trans (congrArg some (by kernel_rfl))⟩
  f18 := ⟨Try.f125.name, by decide, Try.func125.trans (congrArg some (by kernel_rfl))⟩
  f19 := Try.func126.trans (congrArg some (by kernel_rfl))
  f20 := Try.func127.trans (congrArg some (by kernel_rfl))
  f30 := ⟨Try.f129.name, by decide, Try.func129.trans (congrArg some (by kernel_rfl))⟩
  f31 := Try.func130.trans (congrArg some (by kernel_rfl))
  f32 := Try.func131.trans (congrArg some (by kernel_rfl))
  f33 := ⟨Try.f132.name, by decide, Try.func132.trans (congrArg some (by kernel_rfl))⟩
  f34 := ⟨Try.f133.name, by decide, Try.func133.trans (congrArg some (by kernel_rfl))⟩
  f35 := ⟨Try.f134.name, by decide, Try.func134.trans (congrArg some (by kernel_rfl))⟩
  f40 := ⟨Try.f135.name, by decide, Try.func135.trans (congrArg some (by kernel_rfl))⟩
  t0 := Try.underlying0
  a0 := Try.isAgg0
  z0 := Try.sizeOf0
  v0 := Try.zeroValue0
  t3 := Try.underlying3
  a3 := Try.isAgg3
  z3 := Try.sizeOf3
  v3 := Try.zeroValue3
  t4 := Try.underlying4
  a4 := Try.isAgg4
  z4 := Try.sizeOf4
  v4 := Try.zeroValue4
  t5 := Try.underlying5
  a5 := Try.isAgg5
  z5 := Try.sizeOf5
  v5 := Try.zeroValue5
  t9 := Try.underlying9
  a9 := Try.isAgg9
  z9 := Try.sizeOf9
  v9 := Try.zeroValue9
  t22 := Try.underlying34
  a22 := Try.isAgg34
  z22 := Try.sizeOf34
  v22 := Try.zeroValue34
  t23 := Try.underlying34
  a23 := Try.isAgg34
  z23 := Try.sizeOf34
  v23 := Try.zeroValue34
  t25 := Try.underlying3
  a25 := Try.isAgg3
  z25 := Try.sizeOf3
  v25 := Try.zeroValue3
  t32 := Try.underlying121
  a32 := Try.isAgg121
  z32 := Try.sizeOf121
  v32 := Try.zeroValue121
  t35 := Try.underlying129
  a35 := Try.isAgg129
  z35 := Try.sizeOf129
  v35 := Try.zeroValue129
  t36 := Try.underlying130
  a36 := Try.isAgg130
  z36 := Try.sizeOf130
  v36 := Try.zeroValue130
  t41 := Try.underlying53
  a41 := Try.isAgg53
  z41 := Try.sizeOf53
  v41 := Try.zeroValue53
  t44 := Try.underlying136
  a44 := Try.isAgg136
  z44 := Try.sizeOf136
  v44 := Try.zeroValue136
  t46 := Try.underlying138
  a46 := Try.isAgg138
  z46 := Try.sizeOf138
  v46 := Try.zeroValue138
  t53 := Try.underlying140
  a53 := Try.isAgg140
  z53 := Try.sizeOf140
  v53 := Try.zeroValue140
  t57 := Try.underlying144
  a57 := Try.isAgg144
  z57 := Try.sizeOf144
  v57 := Try.zeroValue144
  t63 := Try.underlying146
  a63 := Try.isAgg146
  z63 := Try.sizeOf146
  v63 := Try.zeroValue146
  t64 := Try.underlying147
  a64 := Try.isAgg147
  z64 := Try.sizeOf147
  v64 := Try.zeroValue147 }
open Go.Sort Go.RowKit in
theorem Try.slices_Sort_int (blk off cap : Nat) (zs : List Int) (w : World) (hH : Holds (Value.int .i64) w blk off zs.toArray) (hblk : blk < w.heap.size) (hsz : zs.length < 4611686018427387904) :
    Calls Try.prog 64 #[.slice (some ⟨blk, off, none⟩) zs.length cap] w fun e w' =>
      e = .returned (.tuple #[]) ∧ ∃ n os, w' = grow (putRow (Value.int .i64) (Sort.ahead w n) blk off (zs.mergeSort fun x y => decide (x ≤ y)).toArray) os := AnyM.slices_Sort_int Try.laysSlM5_f64 blk off cap zs w hH hblk hsz
def Try.laysGrow114_ren : Go.Shelf.Ren := ⟨fun | 4 => 114 | n => n, fun | 22 => 22 | 25 => 29 | 3 => 3 | 4 => 4 | 9 => 9 | 20 => 20 | 0 => 0 | n => n, fun | n => n⟩
theorem Try.laysGrow114 : Go.Proofs.Lays8.n4 Try.prog Try.laysGrow114_ren := {
  mixed := by kernel_rfl
  f4 := ⟨Try.f114.name, by decide, Try.func114.trans (congrArg some (by kernel_rfl))⟩
  t0 := Try.underlying0
  a0 := Try.isAgg0
  z0 := Try.sizeOf0
  v0 := Try.zeroValue0
  t3 := Try.underlying3
  a3 := Try.isAgg3
  z3 := Try.sizeOf3
  v3 := Try.zeroValue3
  t4 := Try.underlying4
  a4 := Try.isAgg4
  z4 := Try.sizeOf4
  v4 := Try.zeroValue4
  t9 := Try.underlying9
  a9 := Try.isAgg9
  z9 := Try.sizeOf9
  v9 := Try.zeroValue9
  t20 := Try.underlying20
  a20 := Try.isAgg20
  z20 := Try.sizeOf20
  v20 := Try.zeroValue20
  t22 := Try.underlying22
  a22 := Try.isAgg22
  z22 := Try.sizeOf22
  v22 := Try.zeroValue22 }
end Go.Proofs

/- The types' rows, and that the program has them. (No statement is proved here.) -/
set_option linter.all false
set_option maxRecDepth 100000
namespace Go.Proofs.Ve
open Go
def lay : List TyRow := [
  ⟨2, .int .i64, 1, 8, [.d (.int .i64 0)]⟩,
  ⟨3, .int .i64, 1, 8, [.d (.int .i64 0)]⟩,
  ⟨4, .bool, 1, 1, [.kb false]⟩,
  ⟨5, .int .u8, 1, 1, [.d (.int .u8 0)]⟩,
  ⟨9, .str, 1, 16, [.d (.str ⟨#[]⟩)]⟩,
  ⟨12, .int .u64, 1, 8, [.d (.int .u64 0)]⟩,
  ⟨21, .int .i32, 1, 4, [.d (.int .i32 0)]⟩,
  ⟨22, .slice 29, 1, 24, [.nils]⟩,
  ⟨23, .struct [(0, 22), (1, 22)], 2, 48, [.nils, .nils]⟩,
  ⟨24, .struct [(0, 22), (1, 22)], 2, 48, [.nils, .nils]⟩,
  ⟨25, .slice 5, 1, 24, [.nils]⟩,
  ⟨26, .struct [(0, 3), (1, 25), (2, 25), (3, 4)], 4, 64, [.d (.int .i64 0), .nils, .nils, .kb false]⟩,
  ⟨27, .struct [(0, 3), (1, 25), (2, 25), (3, 4)], 4, 64, [.d (.int .i64 0), .nils, .nils, .kb false]⟩,
  ⟨28, .struct [(0, 3), (1, 4), (2, 27), (6, 3)], 7, 88, [.d (.int .i64 0), .kb false, .d (.int .i64 0), .nils, .nils, .kb false, .d (.int .i64 0)]⟩,
  ⟨29, .struct [(0, 3), (1, 4), (2, 27), (6, 3)], 7, 88, [.d (.int .i64 0), .kb false, .d (.int .i64 0), .nils, .nils, .kb false, .d (.int .i64 0)]⟩,
  ⟨34, .slice 3, 1, 24, [.nils]⟩,
  ⟨39, .slice 41, 1, 24, [.nils]⟩,
  ⟨40, .struct [(0, 29), (7, 4)], 8, 96, [.d (.int .i64 0), .kb false, .d (.int .i64 0), .nils, .nils, .kb false, .d (.int .i64 0), .kb false]⟩,
  ⟨41, .struct [(0, 29), (7, 4)], 8, 96, [.d (.int .i64 0), .kb false, .d (.int .i64 0), .nils, .nils, .kb false, .d (.int .i64 0), .kb false]⟩,
  ⟨44, .int .i64, 1, 8, [.d (.int .i64 0)]⟩,
  ⟨50, .slice 60, 1, 24, [.nils]⟩,
  ⟨51, .arr 4 3, 4, 32, [.d (.int .i64 0), .d (.int .i64 0), .d (.int .i64 0), .d (.int .i64 0)]⟩,
  ⟨59, .arr 4 4, 4, 4, [.kb false, .kb false, .kb false, .kb false]⟩,
  ⟨60, .arr 2 3, 2, 16, [.d (.int .i64 0), .d (.int .i64 0)]⟩,
  ⟨63, .struct [(0, 3), (1, 3), (2, 25), (3, 25), (4, 4), (5, 25), (6, 3)], 7, 104, [.d (.int .i64 0), .d (.int .i64 0), .nils, .nils, .kb false, .nils, .d (.int .i64 0)]⟩,
  ⟨64, .struct [(0, 3), (1, 3), (2, 25), (3, 25), (4, 4), (5, 25), (6, 3)], 7, 104, [.d (.int .i64 0), .d (.int .i64 0), .nils, .nils, .kb false, .nils, .d (.int .i64 0)]⟩,
  ⟨67, .struct [(0, 3), (1, 25), (2, 4), (3, 25)], 4, 64, [.d (.int .i64 0), .nils, .kb false, .nils]⟩,
  ⟨68, .struct [(0, 3), (1, 25), (2, 4), (3, 25)], 4, 64, [.d (.int .i64 0), .nils, .kb false, .nils]⟩,
  ⟨69, .slice 68, 1, 24, [.nils]⟩,
  ⟨74, .slice 64, 1, 24, [.nils]⟩,
  ⟨77, .struct [(0, 24)], 2, 48, [.nils, .nils]⟩,
  ⟨78, .struct [(0, 24)], 2, 48, [.nils, .nils]⟩,
  ⟨95, .arr 4 3, 4, 32, [.d (.int .i64 0), .d (.int .i64 0), .d (.int .i64 0), .d (.int .i64 0)]⟩,
  ⟨97, .arr 4 59, 16, 16, [.kb false, .kb false, .kb false, .kb false, .kb false, .kb false, .kb false, .kb false, .kb false, .kb false, .kb false, .kb false, .kb false, .kb false, .kb false, .kb false]⟩,
  ⟨110, .arr 6 4, 6, 6, [.kb false, .kb false, .kb false, .kb false, .kb false, .kb false]⟩,
  ⟨111, .arr 6 110, 36, 36, [.kb false, .kb false, .kb false, .kb false, .kb false, .kb false, .kb false, .kb false, .kb false, .kb false, .kb false, .kb false, .kb false, .kb false, .kb false, .kb false, .kb false, .kb false, .kb false, .kb false, .kb false, .kb false, .kb false, .kb false, .kb false, .kb false, .kb false, .kb false, .kb false, .kb false, .kb false, .kb false, .kb false, .kb false, .kb false, .kb false]⟩,
  ⟨114, .slice 27, 1, 24, [.nils]⟩,
  ⟨121, .int .u64, 1, 8, [.d (.int .u64 0)]⟩,
  ⟨125, .slice 22, 1, 24, [.nils]⟩,
  ⟨129, .int .i64, 1, 8, [.d (.int .i64 0)]⟩,
  ⟨136, .int .u32, 1, 4, [.d (.int .u32 0)]⟩,
  ⟨138, .int .u64, 1, 8, [.d (.int .u64 0)]⟩,
  ⟨140, .int .u64, 1, 8, [.d (.int .u64 0)]⟩
]
noncomputable def X : Cx := ⟨Try.prog, lay, 136, [0, 1, 115], [25, 117, 118, 119, 122, 129], [63, 64, 85], [115], [(114, 29)]⟩
theorem all_cons {α : Type} {p : α → Prop} {r : α} {rs : List α} (h : p r) (hs : ∀ x ∈ rs, p x) : ∀ x ∈ r :: rs, p x := fun x hx => by cases hx with | head => exact h | tail _ h' => exact hs x h'
theorem cmp_ok {f : FuncId} {fn : Func} (h : Try.prog.funcs[f]? = some fn) (h1 : (fn.name == "runtime.NumGoroutine") = false) (h2 : fn.body.isNone = true) (h3 : (Extern.findNext fn).isNone = true) (h4 : Extern.find fn = some Extern.BytealgCompare.compare) : CmpOk Try.prog f := by
  intro a b w
  have h5 : Extern.findNext fn = none := by simpa using h3
  have h6 : ¬ fn.name = "runtime.NumGoroutine" := by simpa using h1
  have h7 : fn.body = none := by simpa using h2
  unfold callFunc
  simp [h, h5, h4, h6, h7]
theorem zeroCells_size (cs : Array Value) (n : Nat) : (Builtin.zeroCells cs n).size = n * cs.size := by
  unfold Builtin.zeroCells
  induction n with
  | zero => simp
  | succ n ih => simp_all [List.replicate_succ, Nat.succ_mul, Nat.add_comm]
theorem grow_ok {P : Program} {ρ : Go.Shelf.Ren} (L : Go.Proofs.Lays8.n4 P ρ) : GrowOk P (ρ.f 4) (ρ.t 25) := by
  intro n w
  refine ⟨fun h => ?_, fun i z hi hz hs hzc hn hb h6 => ?_⟩
  · subst h
    exact Any8.slices_Grow_room L none 0 0 0 w (Nat.le_refl _) (by omega) (by omega) (Nat.le_refl _)
  · refine (Any8.slices_Grow_grow L i z hi hz hs none 0 0 n [] w (Nat.le_refl _) (by omega) (by simpa using hb) (by omega) (by simp) (fun _ => rfl) (fun a h => by cases h)).mono ?_
    rintro e w' ⟨rfl, rfl⟩
    rw [show 0 + n = n by omega]
    refine ⟨grownCap w n 0 (ρ.t 25), _, rfl, rfl, ?_, grownCap_le_maxLen w n 0 _ (by unfold maxLen; omega)⟩
    have hge := grownCap_ge w n 0 (ρ.t 25)
    simp only [Array.size_append, zeroCells_size, hzc, List.size_toArray, List.length_nil, Nat.zero_add, Nat.sub_zero]
    rw [← Nat.add_mul, show n + (grownCap w n 0 (ρ.t 25) - n) = grownCap w n 0 (ρ.t 25) by omega]
theorem X_ok : X.Ok := by
  refine ⟨?_, by kernel_rfl, by kernel_rfl, by kernel_rfl, by kernel_rfl, ?_, ?_⟩
  · show ∀ r ∈ lay, RowOk Try.prog r
    unfold lay
    repeat (refine all_cons ⟨by kernel_rfl, by kernel_rfl⟩ ?_)
    intro r hr; cases hr
  · show ∀ f ∈ [115], CmpOk Try.prog f
    refine all_cons (cmp_ok Try.func115 rfl rfl rfl rfl) ?_
    intro f hf; cases hf
  · show ∀ p ∈ ([(114, 29)] : List (Nat × Nat)), GrowOk Try.prog p.1 p.2
    refine all_cons (grow_ok Try.laysGrow114) ?_
    intro f hf; cases hf
end Go.Proofs.Ve

/- What modes and spans come to: contracts. -/
set_option maxRecDepth 100000
set_option maxHeartbeats 4000000
set_option linter.all false
namespace Go.Proofs.Ve
open Go
theorem flat_nil : FlatN [] := fun r hr => by cases hr
structure Span where
  t : Int
  lo : List UInt8
  hi : List UInt8
  op : Bool
structure Lock where
  owner : Int
  whole : Bool
  span : Span
  mode : Int
def encB (b : List UInt8) : DV := .sl (b.map fun x => [.int .u8 x.toNat])
def cSpan (s : Span) : List DV := [.int .i64 s.t, encB s.lo, encB s.hi, .bool s.op]
def cLock (x : Lock) : List DV := [.int .i64 x.owner, .bool x.whole, .int .i64 x.span.t, encB x.span.lo, encB x.span.hi, .bool x.span.op, .int .i64 x.mode]
def pSpan (s : Span) : PV := .agg [.d (.int .i64 s.t), .d (encB s.lo), .d (encB s.hi), .d (.bool s.op)]
def pLock (x : Lock) : PV := .agg [.d (.int .i64 x.owner), .d (.bool x.whole), .d (.int .i64 x.span.t), .d (encB x.span.lo), .d (encB x.span.hi), .d (.bool x.span.op), .d (.int .i64 x.mode)]
def toBA (b : List UInt8) : ByteArray := ⟨b.toArray⟩
def cmpB (a b : List UInt8) : Int := Extern.BytealgCompare.cmp ⟨a.toArray⟩ ⟨b.toArray⟩
def ltB (a b : List UInt8) : Bool := Op.bytesLess (toBA a).toList (toBA b).toList
def eqB (a b : List UInt8) : Bool := (toBA a).toList == (toBA b).toList

/-! ### modes -/
def mIs (m : Int) : Bool := decide (m ≥ 1) && decide (m ≤ 5)
theorem c94 (m : Int) (H : List (List Blk)) : CallEq X H 94 [.d (.int .i64 m)] (.d (.bool (mIs m))) [] := by
  unfold mIs
  refine callEq_of_body X_ok rfl Try.func94 rfl ?_
  conv => whnf
  repeat' (first
    | (refine And.intro (fun h_ => ?_) (fun h_ => ?_) <;> (conv => whnf))
    | (intro z_ hz_; conv => whnf)
    | (refine ⟨[], rfl, ?_, True.intro⟩; (conv => whnf); (first | done | (simp_all only [refP, Bool.not_true, Bool.not_false, Bool.true_and, Bool.false_and, Bool.and_true, Bool.and_false, Bool.true_or, Bool.false_or, Bool.or_true, Bool.or_false, Bool.not_not, Bool.not_eq_true', Bool.not_eq_false', if_true, if_false, Bool.false_eq_true, Bool.true_eq_false, List.length_map]; done)))
    | fail)
def mCovers (a b : Int) : Bool := if !mIs a || !mIs b then false else a == b || (a == 5 || (b == 1 || (a == 4 && (b == 2 || b == 3))))
theorem c87 (a b : Int) (H : List (List Blk)) : CallEq X H 87 [.d (.int .i64 a), .d (.int .i64 b)] (.d (.bool (mCovers a b))) [] := by
  unfold mCovers
  refine callEq_of_body X_ok rfl Try.func87 rfl ?_
  conv => whnf
  repeat' (first
    | (refine And.intro (fun h_ => ?_) (fun h_ => ?_) <;> (conv => whnf))
    | (refine ⟨_, _, c94 _ _, (by first | exact True.intro | exact And.intro rfl flat_nil), ?_⟩; conv => whnf)
    | (intro z_ hz_; conv => whnf)
    | (refine ⟨[], rfl, ?_, True.intro⟩; (conv => whnf); (first | done | (simp_all only [refP, Bool.not_true, Bool.not_false, Bool.true_and, Bool.false_and, Bool.and_true, Bool.and_false, Bool.true_or, Bool.false_or, Bool.or_true, Bool.or_false, Bool.not_not, Bool.not_eq_true', Bool.not_eq_false', if_true, if_false, Bool.false_eq_true, Bool.true_eq_false, List.length_map]; done)))
    | fail)
def rMay (m : Int) : Int := if m == 1 then 1 else if m == 2 then 5 else if m == 3 then 3 else if m == 4 then 7 else if m == 5 then 15 else 0
theorem c91 (m : Int) (H : List (List Blk)) : CallEq X H 91 [.d (.int .i64 m)] (.d (.int .i64 (rMay m))) [] := by
  unfold rMay
  refine callEq_of_body X_ok rfl Try.func91 rfl ?_
  conv => whnf
  repeat' (first
    | (refine And.intro (fun h_ => ?_) (fun h_ => ?_) <;> (conv => whnf))
    | (intro z_ hz_; conv => whnf)
    | (refine ⟨[], rfl, ?_, True.intro⟩; (conv => whnf); (first | done | (simp_all only [refP, Bool.not_true, Bool.not_false, Bool.true_and, Bool.false_and, Bool.and_true, Bool.and_false, Bool.true_or, Bool.false_or, Bool.or_true, Bool.or_false, Bool.not_not, Bool.not_eq_true', Bool.not_eq_false', if_true, if_false, Bool.false_eq_true, Bool.true_eq_false, List.length_map]; done)))
    | fail)
def and64 (a b : Int) : Int := IntKind.i64.wrap (BitVec.ofInt IntKind.i64.bits a &&& BitVec.ofInt IntKind.i64.bits b).toNat
def rFits (a b : Int) : Bool :=
  if rMay a == 0 || (rMay b == 0 || (decide (and64 (rMay a) 8 > 0) || decide (and64 (rMay b) 8 > 0))) then false
  else !(decide (and64 (rMay a) 4 > 0) && decide (and64 (rMay b) 2 > 0)) && !(decide (and64 (rMay b) 4 > 0) && decide (and64 (rMay a) 2 > 0))
def rCovers (a b : Int) : Bool := decide (rMay a > 0) && (decide (rMay b > 0) && and64 (rMay a) (rMay b) == rMay b)
/-! ### spans -/
def sCheck (s : Span) : Bool := decide (s.t ≥ 0) && decide (s.t < 4) && decide ((s.lo.length : Int) ≤ 17) && decide ((s.hi.length : Int) ≤ 17) && (!s.op || (s.hi.length : Int) == 0)
theorem c86 (s : Span) (H : List (List Blk)) : CallEq X H 86 [pSpan s] (.d (.bool (sCheck s))) [] := by
  unfold sCheck
  refine callEq_of_body X_ok rfl Try.func86 rfl ?_
  conv => whnf
  repeat' (first
    | (refine And.intro (fun h_ => ?_) (fun h_ => ?_) <;> (conv => whnf))
    | (intro z_ hz_; conv => whnf)
    | (refine ⟨[], rfl, ?_, True.intro⟩; (conv => whnf); (first | done | (simp_all only [refP, Bool.not_true, Bool.not_false, Bool.true_and, Bool.false_and, Bool.and_true, Bool.and_false, Bool.true_or, Bool.false_or, Bool.or_true, Bool.or_false, Bool.not_not, Bool.not_eq_true', Bool.not_eq_false', if_true, if_false, Bool.false_eq_true, Bool.true_eq_false, List.length_map]; done)))
    | fail)
def rSCheck (s : Span) : Bool := decide (s.t ≥ 0) && decide (s.t ≤ 3) && decide ((s.lo.length : Int) ≤ 17) && decide ((s.hi.length : Int) ≤ 17) && (!s.op || (s.hi.length : Int) == 0)
theorem c92 (s : Span) (H : List (List Blk)) : CallEq X H 92 [pSpan s] (.d (.bool (rSCheck s))) [] := by
  unfold rSCheck
  refine callEq_of_body X_ok rfl Try.func92 rfl ?_
  conv => whnf
  repeat' (first
    | (refine And.intro (fun h_ => ?_) (fun h_ => ?_) <;> (conv => whnf))
    | (intro z_ hz_; conv => whnf)
    | (refine ⟨[], rfl, ?_, True.intro⟩; (conv => whnf); (first | done | (simp_all only [refP, Bool.not_true, Bool.not_false, Bool.true_and, Bool.false_and, Bool.and_true, Bool.and_false, Bool.true_or, Bool.false_or, Bool.or_true, Bool.or_false, Bool.not_not, Bool.not_eq_true', Bool.not_eq_false', if_true, if_false, Bool.false_eq_true, Bool.true_eq_false, List.length_map]; done)))
    | fail)
theorem c96 (a b : List UInt8) (H : List (List Blk)) : CallEq X H 96 [.d (encB a), .d (encB b)] (.d (.int .i64 (cmpB a b))) [] := by
  unfold cmpB
  refine callEq_of_body X_ok rfl Try.func96 rfl ?_
  conv => whnf
  repeat' (first
    | (refine And.intro (fun h_ => ?_) (fun h_ => ?_) <;> (conv => whnf))
    | (refine ⟨_, _, rfl, rfl, ?_⟩; conv => whnf)
    | (intro z_ hz_; conv => whnf)
    | (refine ⟨[], rfl, ?_, True.intro⟩; (conv => whnf); (first | done | (simp_all only [refP, Bool.not_true, Bool.not_false, Bool.true_and, Bool.false_and, Bool.and_true, Bool.and_false, Bool.true_or, Bool.false_or, Bool.or_true, Bool.or_false, Bool.not_not, Bool.not_eq_true', Bool.not_eq_false', if_true, if_false, Bool.false_eq_true, Bool.true_eq_false, List.length_map]; done)))
    | fail)
def sEmpty (s : Span) : Bool := !s.op && decide (cmpB s.hi s.lo ≤ 0)
theorem c88 (s : Span) (H : List (List Blk)) : CallEq X H 88 [pSpan s] (.d (.bool (sEmpty s))) [] := by
  unfold sEmpty
  refine callEq_of_body X_ok rfl Try.func88 rfl ?_
  conv => whnf
  repeat' (first
    | (refine And.intro (fun h_ => ?_) (fun h_ => ?_) <;> (conv => whnf))
    | (refine ⟨_, _, c96 _ _ _, (by first | exact True.intro | exact And.intro rfl flat_nil), ?_⟩; conv => whnf)
    | (intro z_ hz_; conv => whnf)
    | (refine ⟨[], rfl, ?_, True.intro⟩; (conv => whnf); (first | done | (simp_all only [refP, Bool.not_true, Bool.not_false, Bool.true_and, Bool.false_and, Bool.and_true, Bool.and_false, Bool.true_or, Bool.false_or, Bool.or_true, Bool.or_false, Bool.not_not, Bool.not_eq_true', Bool.not_eq_false', if_true, if_false, Bool.false_eq_true, Bool.true_eq_false, List.length_map]; done)))
    | fail)
def rSEmpty (s : Span) : Bool := !s.op && (ltB s.hi s.lo || eqB s.hi s.lo)
theorem c93 (s : Span) (H : List (List Blk)) : CallEq X H 93 [pSpan s] (.d (.bool (rSEmpty s))) [] := by
  unfold rSEmpty ltB eqB toBA
  refine callEq_of_body X_ok rfl Try.func93 rfl ?_
  conv => whnf
  repeat' (first
    | (refine And.intro (fun h_ => ?_) (fun h_ => ?_) <;> (conv => whnf))
    | (refine ⟨_, rfl, ?_⟩; conv => whnf)
    | (intro z_ hz_; conv => whnf)
    | (refine ⟨[], rfl, ?_, True.intro⟩; (conv => whnf); (first | done | (simp_all only [refP, Bool.not_true, Bool.not_false, Bool.true_and, Bool.false_and, Bool.and_true, Bool.and_false, Bool.true_or, Bool.false_or, Bool.or_true, Bool.or_false, Bool.not_not, Bool.not_eq_true', Bool.not_eq_false', if_true, if_false, Bool.false_eq_true, Bool.true_eq_false, List.length_map]; done)))
    | fail)
def sIn (s : Span) (t : Int) (k : List UInt8) : Bool := s.t == t && decide (cmpB s.lo k ≤ 0) && (s.op || decide (cmpB k s.hi < 0))
theorem c100 (s : Span) (t : Int) (k : List UInt8) (H : List (List Blk)) : CallEq X H 100 [pSpan s, .d (.int .i64 t), .d (encB k)] (.d (.bool (sIn s t k))) [] := by
  unfold sIn
  refine callEq_of_body X_ok rfl Try.func100 rfl ?_
  conv => whnf
  repeat' (first
    | (refine And.intro (fun h_ => ?_) (fun h_ => ?_) <;> (conv => whnf))
    | (refine ⟨_, _, c96 _ _ _, (by first | exact True.intro | exact And.intro rfl flat_nil), ?_⟩; conv => whnf)
    | (intro z_ hz_; conv => whnf)
    | (refine ⟨[], rfl, ?_, True.intro⟩; (conv => whnf); (first | done | (simp_all only [refP, Bool.not_true, Bool.not_false, Bool.true_and, Bool.false_and, Bool.and_true, Bool.and_false, Bool.true_or, Bool.false_or, Bool.or_true, Bool.or_false, Bool.not_not, Bool.not_eq_true', Bool.not_eq_false', if_true, if_false, Bool.false_eq_true, Bool.true_eq_false, List.length_map]; done)))
    | fail)
def rSIn (s : Span) (t : Int) (k : List UInt8) : Bool := s.t == t && !ltB k s.lo && (s.op || ltB k s.hi)
theorem c101 (s : Span) (t : Int) (k : List UInt8) (H : List (List Blk)) : CallEq X H 101 [pSpan s, .d (.int .i64 t), .d (encB k)] (.d (.bool (rSIn s t k))) [] := by
  unfold rSIn ltB toBA
  refine callEq_of_body X_ok rfl Try.func101 rfl ?_
  conv => whnf
  repeat' (first
    | (refine And.intro (fun h_ => ?_) (fun h_ => ?_) <;> (conv => whnf))
    | (refine ⟨_, rfl, ?_⟩; conv => whnf)
    | (intro z_ hz_; conv => whnf)
    | (refine ⟨[], rfl, ?_, True.intro⟩; (conv => whnf); (first | done | (simp_all only [refP, Bool.not_true, Bool.not_false, Bool.true_and, Bool.false_and, Bool.and_true, Bool.and_false, Bool.true_or, Bool.false_or, Bool.or_true, Bool.or_false, Bool.not_not, Bool.not_eq_true', Bool.not_eq_false', if_true, if_false, Bool.false_eq_true, Bool.true_eq_false, List.length_map]; done)))
    | fail)
end Go.Proofs.Ve

/- Loops of the library: contracts. -/
set_option maxRecDepth 100000
set_option linter.all false
namespace Go.Proofs.Ve
open Go
theorem loopV_of {body : (Exit → List PV → List Blk → Prop) → List PV → List Blk → Prop} {K : Exit → List PV → List Blk → Prop} {tm : List PV} {top : List Blk} {ι : Type} (S : ι → LS) (I : ι → Prop) (μ : ι → Nat) (i0 : ι) (s0 : List Nat)
    (hI : I i0) (h0 : Ref s0 tm top (S i0).tm (S i0).top) (h : ∀ i, I i → body (fun e tm' top' => match e with | .normal => ∃ i' s, I i' ∧ μ i' < μ i ∧ Ref s tm' top' (S i').tm (S i').top | e => K e tm' top') (S i).tm (S i).top) : LoopV body K tm top := by
  unfold LoopV; exact ⟨ι, S, I, μ, ⟨i0, s0, hI, h0⟩, h⟩
def idxOf {α : Type} (p : α → Bool) : List α → Int → Int
  | [], _ => -1
  | x :: xs, k => bif p x then k else idxOf p xs (k + 1)
theorem idxOf_step {α : Type} {p : α → Bool} {l : List α} {k : Nat} {x : α} (h : l[k]? = some x) : idxOf p (l.drop k) k = bif p x then (k : Int) else idxOf p (l.drop (k + 1)) (k + 1 : Nat) := by
  have hk := (List.getElem?_eq_some_iff.1 h).1
  rw [List.drop_eq_getElem_cons hk]
  have : l[k] = x := (List.getElem?_eq_some_iff.1 h).2
  simp [idxOf, this]
theorem wrap_small {k : Int} (h0 : 0 ≤ k) (h1 : k < 9223372036854775808) : IntKind.i64.wrap k = k := by rw [IntKind.wrap_i64]; omega

theorem c116 (p : Span → Bool) (l0 i0 l1 i1 : Nat) (xs : List Span) (H : List (List Blk)) (hlen : xs.length < 1000000) (hp : ∀ x T, CallEq X (T :: H) 99 [pSpan x, .ptr (l0 + 2) i0 0, .ptr (l1 + 2) i1 0] (.d (.bool (p x))) []) :
    CallEq X H 116 [.d (.sl (xs.map cSpan)), .func (.func 99) [] [.ptr (l0 + 1) i0 0, .ptr (l1 + 1) i1 0]] (.d (.int .i64 (idxOf p xs 0))) [] := by
  refine callEq_of_body X_ok rfl Try.func116 rfl ?_
  conv => whnf
  refine loopV_of (fun k : Nat => ⟨[.d (.sl (xs.map cSpan)), .func (.func 99) [] [.ptr (l0 + 1) i0 0, .ptr (l1 + 1) i1 0], .any, .any, .any, .any, .any, .d (.int .i64 (xs.map cSpan).length), .d (.int .i64 k), .any, .any, .any, .any, .any, .any, .any, .any, .any, .any], []⟩) (fun k => k ≤ xs.length ∧ idxOf p xs 0 = idxOf p (xs.drop k) k) (fun k => xs.length - k) 0 [] ⟨Nat.zero_le _, by simp⟩ ?_ ?_
  · refine And.intro rfl (And.intro ?_ True.intro)
    repeat' (first | exact True.intro | exact rfl | refine And.intro ?_ ?_)
  · rintro k ⟨hk, hidx⟩
    conv => whnf
    refine And.intro (fun h_ => ?_) (fun h_ => ?_)
    · conv => whnf
      have hk' : k < xs.length := by simpa using h_
      obtain ⟨x, hx⟩ : ∃ x, xs[k]? = some x := ⟨_, List.getElem?_eq_getElem hk'⟩
      have hst := idxOf_step (p := p) hx
      refine ⟨by omega, cSpan x, by simp [hx], rfl, ?_⟩
      conv => whnf
      refine ⟨_, _, hp _ _, True.intro, ?_⟩
      conv => whnf
      refine And.intro (fun h1 => ?_) (fun h1 => ?_)
      · conv => whnf
        refine ⟨[], rfl, ?_, True.intro⟩
        show DV.int .i64 (k : Int) = .int .i64 (idxOf p xs 0)
        rw [hidx, hst, h1]; rfl
      · conv => whnf
        intro z hz
        conv => whnf
        rw [wrap_small (by omega) (by omega)] at hz
        subst hz
        refine ⟨k + 1, [], ⟨by omega, ?_⟩, by omega, And.intro rfl (And.intro ?_ True.intro)⟩
        · rw [hidx, hst, h1]; rfl
        · repeat' (first | exact True.intro | exact rfl | refine And.intro ?_ ?_)
    · conv => whnf
      have hk' : k = xs.length := by simp at h_; omega
      refine ⟨[], rfl, ?_, True.intro⟩
      show DV.int .i64 (-1) = .int .i64 (idxOf p xs 0)
      rw [hidx, hk', List.drop_length]; rfl
theorem idxOf_ge {α : Type} (p : α → Bool) : ∀ (l : List α) (k : Int), 0 ≤ k → decide (idxOf p l k ≥ 0) = l.any p
  | [], k, _ => rfl
  | x :: xs, k, hk => by
    have ih := idxOf_ge p xs (k + 1) (by omega)
    cases h : p x with
    | true => rw [idxOf, h, List.any_cons, h]; simpa using hk
    | false => rw [idxOf, h, List.any_cons, h]; exact ih
theorem c98 (p : Span → Bool) (l0 i0 l1 i1 : Nat) (xs : List Span) (H : List (List Blk)) (hlen : xs.length < 1000000) (hp : ∀ x T T', CallEq X (T :: T' :: H) 99 [pSpan x, .ptr (l0 + 3) i0 0, .ptr (l1 + 3) i1 0] (.d (.bool (p x))) []) :
    CallEq X H 98 [.d (.sl (xs.map cSpan)), .func (.func 99) [] [.ptr (l0 + 1) i0 0, .ptr (l1 + 1) i1 0]] (.d (.bool (xs.any p))) [] := by
  rw [← idxOf_ge p xs 0 (Int.le_refl _)]
  refine callEq_of_body X_ok rfl Try.func98 rfl ?_
  conv => whnf
  repeat' (first
    | (refine And.intro (fun h_ => ?_) (fun h_ => ?_) <;> (conv => whnf))
    | (refine ⟨_, _, c116 p _ _ _ _ xs _ hlen (fun x T => hp x T _), (by first | exact True.intro | exact And.intro rfl flat_nil), ?_⟩; conv => whnf)
    | (intro z_ hz_; conv => whnf)
    | (refine ⟨[], rfl, ?_, True.intro⟩; (conv => whnf); (first | done | (simp_all only [refP, Bool.not_true, Bool.not_false, Bool.true_and, Bool.false_and, Bool.and_true, Bool.and_false, Bool.true_or, Bool.false_or, Bool.or_true, Bool.or_false, Bool.not_not, Bool.not_eq_true', Bool.not_eq_false', if_true, if_false, Bool.false_eq_true, Bool.true_eq_false, List.length_map]; done)))
    | fail)
/-! ### two spans -/
theorem c99 (a x : Span) (k : List UInt8) (T1 T2 T3 : List Blk) (B1 : Blk) (rest : List Blk) (H : List (List Blk)) :
    CallEq X (T1 :: T2 :: T3 :: (.box [.d (.int .i64 a.t), .d (encB a.lo), .d (encB a.hi), .d (.bool a.op)] :: B1 :: .box [.d (encB k)] :: rest) :: H) 99 [pSpan x, .ptr 4 0 0, .ptr 4 2 0] (.d (.bool (!sIn x a.t k))) [] := by
  refine callEq_of_body X_ok rfl Try.func99 rfl ?_
  conv => whnf
  repeat' (first
    | (refine And.intro (fun h_ => ?_) (fun h_ => ?_) <;> (conv => whnf))
    | (refine ⟨_, _, c100 _ _ _ _, (by first | exact True.intro | exact And.intro rfl flat_nil), ?_⟩; conv => whnf)
    | (intro z_ hz_; conv => whnf)
    | (refine ⟨[], rfl, ?_, True.intro⟩; (conv => whnf); (first | done | (simp_all only [refP, Bool.not_true, Bool.not_false, Bool.true_and, Bool.false_and, Bool.and_true, Bool.and_false, Bool.true_or, Bool.false_or, Bool.or_true, Bool.or_false, Bool.not_not, Bool.not_eq_true', Bool.not_eq_false', if_true, if_false, Bool.false_eq_true, Bool.true_eq_false, List.length_map]; done)))
    | fail)
def sMeets (a b : Span) : Bool :=
  let k := if decide (cmpB a.lo b.lo < 0) then b.lo else a.lo
  !([a, b].any fun x => !sIn x a.t k)
theorem c97 (a b : Span) (k : List UInt8) (B1 : Blk) (rest : List Blk) (H : List (List Blk)) :
    CallEq X ((.box [.d (.int .i64 a.t), .d (encB a.lo), .d (encB a.hi), .d (.bool a.op)] :: B1 :: .box [.d (encB k)] :: rest) :: H) 97 [.d (.sl ([a, b].map cSpan)), .ptr 1 0 0, .ptr 1 2 0] (.d (.bool (!([a, b].any fun x => !sIn x a.t k)))) [] := by
  refine callEq_of_body X_ok rfl Try.func97 rfl ?_
  conv => whnf
  repeat' (first
    | (refine And.intro (fun h_ => ?_) (fun h_ => ?_) <;> (conv => whnf))
    | (refine ⟨_, _, c98 (fun x => !sIn x a.t k) 1 0 1 2 [a, b] _ (by simp) (fun x T T' => c99 a x k _ _ _ _ _ _), (by first | exact True.intro | exact And.intro rfl flat_nil), ?_⟩; conv => whnf)
    | (intro z_ hz_; conv => whnf)
    | (refine ⟨[], rfl, ?_, True.intro⟩; (conv => whnf); (first | done | (simp_all only [refP, Bool.not_true, Bool.not_false, Bool.true_and, Bool.false_and, Bool.and_true, Bool.and_false, Bool.true_or, Bool.false_or, Bool.or_true, Bool.or_false, Bool.not_not, Bool.not_eq_true', Bool.not_eq_false', if_true, if_false, Bool.false_eq_true, Bool.true_eq_false, List.length_map]; done)))
    | fail)
theorem c57 (a b : Span) (H : List (List Blk)) : CallEq X H 57 [pSpan a, pSpan b] (.d (.bool (sMeets a b))) [] := by
  unfold sMeets
  refine callEq_of_body X_ok rfl Try.func57 rfl ?_
  conv => whnf
  repeat' (first
    | (refine And.intro (fun h_ => ?_) (fun h_ => ?_) <;> (conv => whnf))
    | (refine ⟨_, _, c96 _ _ _, (by first | exact True.intro | exact And.intro rfl flat_nil), ?_⟩; conv => whnf)
    | (refine ⟨_, _, c97 a b _ _ _ _, (by first | exact True.intro | exact And.intro rfl flat_nil), ?_⟩; conv => whnf)
    | (intro z_ hz_; conv => whnf)
    | (refine ⟨[], rfl, ?_, True.intro⟩; (conv => whnf); (first | done | (simp_all only [refP, Bool.not_true, Bool.not_false, Bool.true_and, Bool.false_and, Bool.and_true, Bool.and_false, Bool.true_or, Bool.false_or, Bool.or_true, Bool.or_false, Bool.not_not, Bool.not_eq_true', Bool.not_eq_false', if_true, if_false, Bool.false_eq_true, Bool.true_eq_false, List.length_map]; done)))
    | fail)
def rMeets (a b : Span) : Bool := a.t == b.t && ((rSIn a b.t b.lo && rSIn b b.t b.lo) || (rSIn b a.t a.lo && rSIn a a.t a.lo))
theorem c59 (a b : Span) (H : List (List Blk)) : CallEq X H 59 [pSpan a, pSpan b] (.d (.bool (rMeets a b))) [] := by
  unfold rMeets
  refine callEq_of_body X_ok rfl Try.func59 rfl ?_
  conv => whnf
  repeat' (first
    | (refine And.intro (fun h_ => ?_) (fun h_ => ?_) <;> (conv => whnf))
    | (refine ⟨_, _, c101 _ _ _ _, (by first | exact True.intro | exact And.intro rfl flat_nil), ?_⟩; conv => whnf)
    | (intro z_ hz_; conv => whnf)
    | (refine ⟨[], rfl, ?_, True.intro⟩; (conv => whnf); (first | done | (simp_all only [refP, Bool.not_true, Bool.not_false, Bool.true_and, Bool.false_and, Bool.and_true, Bool.and_false, Bool.true_or, Bool.false_or, Bool.or_true, Bool.or_false, Bool.not_not, Bool.not_eq_true', Bool.not_eq_false', if_true, if_false, Bool.false_eq_true, Bool.true_eq_false, List.length_map]; done)))
    | fail)
end Go.Proofs.Ve

/- Locks: may one be, do two clash. -/
set_option maxRecDepth 100000
set_option linter.all false
namespace Go.Proofs.Ve
open Go
theorem c58 (a b : Int) (H : List (List Blk)) : CallEq X H 58 [.d (.int .i64 a), .d (.int .i64 b)] (.d (.bool (rFits a b))) [] := by
  unfold rFits and64
  refine callEq_of_body X_ok rfl Try.func58 rfl ?_
  conv => whnf
  repeat' (first
    | (refine And.intro (fun h_ => ?_) (fun h_ => ?_) <;> (conv => whnf))
    | (refine ⟨_, _, c91 _ _, (by first | exact True.intro | exact And.intro rfl flat_nil), ?_⟩; conv => whnf)
    | (intro z_ hz_; conv => whnf)
    | (refine ⟨[], rfl, ?_, True.intro⟩; (conv => whnf); (first | done | (simp_all only [refP, Bool.not_true, Bool.not_false, Bool.true_and, Bool.false_and, Bool.and_true, Bool.and_false, Bool.true_or, Bool.false_or, Bool.or_true, Bool.or_false, Bool.not_not, Bool.not_eq_true', Bool.not_eq_false', if_true, if_false, Bool.false_eq_true, Bool.true_eq_false, List.length_map]; done)))
    | fail)
def rLMay (x : Lock) : Bool :=
  if decide (x.owner < 0) || decide (x.owner > 3) then false
  else if x.whole then (((x.span.lo.length : Int) == 0 && ((x.span.hi.length : Int) == 0 && !x.span.op)) && decide (x.span.t ≥ 0)) && decide (x.span.t ≤ 3) && decide (rMay x.mode > 0)
  else (rSCheck x.span && !rSEmpty x.span) && (x.mode == 3 || x.mode == 5)
theorem c54 (x : Lock) (H : List (List Blk)) : CallEq X H 54 [pLock x] (.d (.bool (rLMay x))) [] := by
  unfold rLMay
  refine callEq_of_body X_ok rfl Try.func54 rfl ?_
  conv => whnf
  repeat' (first
    | (refine And.intro (fun h_ => ?_) (fun h_ => ?_) <;> (conv => whnf))
    | (refine ⟨_, _, c91 _ _, (by first | exact True.intro | exact And.intro rfl flat_nil), ?_⟩; conv => whnf)
    | (refine ⟨_, _, c92 x.span _, (by first | exact True.intro | exact And.intro rfl flat_nil), ?_⟩; conv => whnf)
    | (refine ⟨_, _, c93 x.span _, (by first | exact True.intro | exact And.intro rfl flat_nil), ?_⟩; conv => whnf)
    | (intro z_ hz_; conv => whnf)
    | (refine ⟨[], rfl, ?_, True.intro⟩; (conv => whnf); (first | done | (simp_all only [refP, Bool.not_true, Bool.not_false, Bool.true_and, Bool.false_and, Bool.and_true, Bool.and_false, Bool.true_or, Bool.false_or, Bool.or_true, Bool.or_false, Bool.not_not, Bool.not_eq_true', Bool.not_eq_false', if_true, if_false, Bool.false_eq_true, Bool.true_eq_false, List.length_map]; done)))
    | fail)
def lMay (x : Lock) : Bool :=
  if decide (x.owner < 0) || (decide (x.owner ≥ 4) || !sCheck x.span) then false
  else if x.whole then ((x.span.lo.length : Int) == 0 && ((x.span.hi.length : Int) == 0 && !x.span.op)) && mCovers x.mode x.mode
  else !sEmpty x.span && (x.mode == 3 || x.mode == 5)
theorem c50 (x : Lock) (H : List (List Blk)) : CallEq X H 50 [pLock x] (.d (.bool (lMay x))) [] := by
  unfold lMay
  refine callEq_of_body X_ok rfl Try.func50 rfl ?_
  conv => whnf
  repeat' (first
    | (refine And.intro (fun h_ => ?_) (fun h_ => ?_) <;> (conv => whnf))
    | (refine ⟨_, _, c86 x.span _, (by first | exact True.intro | exact And.intro rfl flat_nil), ?_⟩; conv => whnf)
    | (refine ⟨_, _, c87 _ _ _, (by first | exact True.intro | exact And.intro rfl flat_nil), ?_⟩; conv => whnf)
    | (refine ⟨_, _, c88 x.span _, (by first | exact True.intro | exact And.intro rfl flat_nil), ?_⟩; conv => whnf)
    | (intro z_ hz_; conv => whnf)
    | (refine ⟨[], rfl, ?_, True.intro⟩; (conv => whnf); (first | done | (simp_all only [refP, Bool.not_true, Bool.not_false, Bool.true_and, Bool.false_and, Bool.and_true, Bool.and_false, Bool.true_or, Bool.false_or, Bool.or_true, Bool.or_false, Bool.not_not, Bool.not_eq_true', Bool.not_eq_false', if_true, if_false, Bool.false_eq_true, Bool.true_eq_false, List.length_map]; done)))
    | fail)
def rClash (a b : Lock) : Bool :=
  if a.owner == b.owner || (a.span.t != b.span.t || !(a.whole == b.whole)) then false
  else if a.whole then !rFits a.mode b.mode
  else rMeets a.span b.span && (a.mode == 5 || b.mode == 5)
theorem c22 (a b : Lock) (H : List (List Blk)) : CallEq X H 22 [pLock a, pLock b] (.d (.bool (rClash a b))) [] := by
  unfold rClash
  refine callEq_of_body X_ok rfl Try.func22 rfl ?_
  conv => whnf
  repeat' (first
    | (refine And.intro (fun h_ => ?_) (fun h_ => ?_) <;> (conv => whnf))
    | (refine ⟨_, _, c58 _ _ _, (by first | exact True.intro | exact And.intro rfl flat_nil), ?_⟩; conv => whnf)
    | (refine ⟨_, _, c59 a.span b.span _, (by first | exact True.intro | exact And.intro rfl flat_nil), ?_⟩; conv => whnf)
    | (intro z_ hz_; conv => whnf)
    | (refine ⟨[], rfl, ?_, True.intro⟩; (conv => whnf); (first | done | (simp_all only [refP, Bool.not_true, Bool.not_false, Bool.true_and, Bool.false_and, Bool.and_true, Bool.and_false, Bool.true_or, Bool.false_or, Bool.or_true, Bool.or_false, Bool.not_not, Bool.not_eq_true', Bool.not_eq_false', if_true, if_false, Bool.false_eq_true, Bool.true_eq_false, List.length_map]; done)))
    | fail)
end Go.Proofs.Ve

/- Modes that fit; locks that clash. -/
set_option maxRecDepth 100000
set_option linter.all false
namespace Go.Proofs.Ve
open Go
theorem mIs_cases {m : Int} (h : mIs m = true) : m = 1 ∨ m = 2 ∨ m = 3 ∨ m = 4 ∨ m = 5 := by
  unfold mIs at h
  simp at h
  omega
def mTable : List PV := [.kb false, .kb false, .kb false, .kb false, .kb false, .kb false, .kb false, .kb true, .kb true, .kb true, .kb true, .kb false, .kb false, .kb true, .kb true, .kb false, .kb false, .kb false, .kb false, .kb true, .kb false, .kb true, .kb false, .kb false, .kb false, .kb true, .kb false, .kb false, .kb false, .kb false, .kb false, .kb false, .kb false, .kb false, .kb false, .kb false]
theorem c95 (H : List (List Blk)) : CallEq X H 95 [] (.agg mTable) [] := by
  refine callEq_of_body X_ok rfl Try.func95 rfl ?_
  conv => whnf
  exact ⟨[], rfl, (by (repeat' (first | exact True.intro | exact rfl | refine And.intro ?_ ?_))), True.intro⟩
def mTab (a b : Int) : Bool := (a == 1 && (b == 1 || b == 2 || b == 3 || b == 4)) || (a == 2 && (b == 1 || b == 2)) || (a == 3 && (b == 1 || b == 3)) || (a == 4 && b == 1)
def mFits (a b : Int) : Bool := mIs a && (mIs b && mTab a b)
theorem c94t (m : Int) (h : mIs m = true) (H : List (List Blk)) : CallEq X H 94 [.d (.int .i64 m)] (.d (.bool true)) [] := h ▸ c94 m H
theorem c56 (a b : Int) (H : List (List Blk)) : CallEq X H 56 [.d (.int .i64 a), .d (.int .i64 b)] (.d (.bool (mFits a b))) [] := by
  by_cases h : mIs a = true ∧ mIs b = true
  · obtain ⟨ha, hb⟩ := h
    rcases mIs_cases ha with rfl | rfl | rfl | rfl | rfl <;> rcases mIs_cases hb with rfl | rfl | rfl | rfl | rfl <;>
    ( refine callEq_of_body X_ok rfl Try.func56 rfl ?_
      conv => whnf
      refine ⟨_, _, c94t _ ha _, True.intro, ?_⟩
      conv => whnf
      refine And.intro (fun _ => ?_) (fun h_ => by cases h_)
      conv => whnf
      refine ⟨_, _, c94t _ hb _, True.intro, ?_⟩
      conv => whnf
      refine And.intro (fun _ => ?_) (fun h_ => by cases h_)
      conv => whnf
      refine ⟨_, _, c95 _, True.intro, ?_⟩
      conv => whnf
      refine ⟨by decide, by decide, ?_⟩
      conv => whnf
      refine ⟨by decide, by decide, ?_⟩
      conv => whnf
      exact ⟨[], rfl, congrArg DV.bool (by decide), True.intro⟩ )
  · unfold mFits
    refine callEq_of_body X_ok rfl Try.func56 rfl ?_
    conv => whnf
    refine ⟨_, _, c94 _ _, True.intro, ?_⟩
    conv => whnf
    refine And.intro (fun h1 => ?_) (fun h1 => ?_) <;> (conv => whnf)
    · refine ⟨_, _, c94 _ _, True.intro, ?_⟩
      conv => whnf
      refine And.intro (fun h2 => ?_) (fun h2 => ?_) <;> (conv => whnf)
      · exact absurd ⟨h1, h2⟩ h
      · refine ⟨[], rfl, ?_, True.intro⟩
        conv => whnf
        simp only [h1, h2, Bool.not_true, Bool.true_and, Bool.false_and]
    · refine ⟨[], rfl, ?_, True.intro⟩
      conv => whnf
      simp only [h1, Bool.not_true, Bool.false_and]
def lClash (a b : Lock) : Bool :=
  if a.owner == b.owner || (a.span.t != b.span.t || !(a.whole == b.whole)) then false
  else if a.whole then !mFits a.mode b.mode
  else sMeets a.span b.span && (a.mode == 5 || b.mode == 5)
theorem c21 (a b : Lock) (H : List (List Blk)) : CallEq X H 21 [pLock a, pLock b] (.d (.bool (lClash a b))) [] := by
  unfold lClash
  refine callEq_of_body X_ok rfl Try.func21 rfl ?_
  conv => whnf
  repeat' (first
    | (refine And.intro (fun h_ => ?_) (fun h_ => ?_) <;> (conv => whnf))
    | (refine ⟨_, _, c56 _ _ _, (by first | exact True.intro | exact And.intro rfl flat_nil), ?_⟩; conv => whnf)
    | (refine ⟨_, _, c57 a.span b.span _, (by first | exact True.intro | exact And.intro rfl flat_nil), ?_⟩; conv => whnf)
    | (intro z_ hz_; conv => whnf)
    | (refine ⟨[], rfl, ?_, True.intro⟩; (conv => whnf); (first | done | (simp_all only [refP, Bool.not_true, Bool.not_false, Bool.true_and, Bool.false_and, Bool.and_true, Bool.and_false, Bool.true_or, Bool.false_or, Bool.or_true, Bool.or_false, Bool.not_not, Bool.not_eq_true', Bool.not_eq_false', if_true, if_false, Bool.false_eq_true, Bool.true_eq_false, List.length_map]; done)))
    | fail)
end Go.Proofs.Ve

/- Locks in lists: contracts. -/
set_option maxRecDepth 100000
set_option linter.all false
namespace Go.Proofs.Ve
open Go
structure Locks where
  held : List Lock
  queue : List Lock
def encLocks (l : List Lock) : DV := .sl (l.map cLock)
def pLocks (l : Locks) : PV := .agg [.d (encLocks l.held), .d (encLocks l.queue)]
def short (x : Lock) : Bool := decide ((x.span.lo.length : Int) ≤ 100) && decide ((x.span.hi.length : Int) ≤ 100)
theorem c15 (x : Lock) (H : List (List Blk)) : CallEq X H 15 [pLock x] (.d (.bool (short x))) [] := by
  unfold short
  refine callEq_of_body X_ok rfl Try.func15 rfl ?_
  conv => whnf
  repeat' (first
    | (refine And.intro (fun h_ => ?_) (fun h_ => ?_) <;> (conv => whnf))
    | (intro z_ hz_; conv => whnf)
    | (refine ⟨[], rfl, ?_, True.intro⟩; (conv => whnf); (first | done | (simp_all only [refP, Bool.not_true, Bool.not_false, Bool.true_and, Bool.false_and, Bool.and_true, Bool.and_false, Bool.true_or, Bool.false_or, Bool.or_true, Bool.or_false, Bool.not_not, Bool.not_eq_true', Bool.not_eq_false', if_true, if_false, Bool.false_eq_true, Bool.true_eq_false, List.length_map]; done)))
    | fail)
/-! ### the place of an owner's -/
theorem c83 (x : Lock) (o : Int) (T1 : List Blk) (B0 : Blk) (rest : List Blk) (H : List (List Blk)) : CallEq X (T1 :: (B0 :: .box [.d (.int .i64 o)] :: rest) :: H) 83 [pLock x, .ptr 2 1 0] (.d (.bool (x.owner == o))) [] := by
  refine callEq_of_body X_ok rfl Try.func83 rfl ?_
  conv => whnf
  repeat' (first
    | (refine And.intro (fun h_ => ?_) (fun h_ => ?_) <;> (conv => whnf))
    | (intro z_ hz_; conv => whnf)
    | (refine ⟨[], rfl, ?_, True.intro⟩; (conv => whnf); (first | done | (simp_all only [refP, Bool.not_true, Bool.not_false, Bool.true_and, Bool.false_and, Bool.and_true, Bool.and_false, Bool.true_or, Bool.false_or, Bool.or_true, Bool.or_false, Bool.not_not, Bool.not_eq_true', Bool.not_eq_false', if_true, if_false, Bool.false_eq_true, Bool.true_eq_false, List.length_map]; done)))
    | fail)
theorem i83 (p : Lock → Bool) (l0 i0 : Nat) (xs : List Lock) (H : List (List Blk)) (hlen : xs.length < 1000000) (hp : ∀ x, x ∈ xs → ∀ T, CallEq X (T :: H) 83 [pLock x, .ptr (l0 + 2) i0 0] (.d (.bool (p x))) []) :
    CallEq X H 82 [.d (.sl (xs.map cLock)), .func (.func 83) [] [.ptr (l0 + 1) i0 0]] (.d (.int .i64 (idxOf p xs 0))) [] := by
  refine callEq_of_body X_ok rfl Try.func82 rfl ?_
  conv => whnf
  refine loopV_of (fun k : Nat => ⟨[.d (.sl (xs.map cLock)), .func (.func 83) [] [.ptr (l0 + 1) i0 0], .any, .any, .any, .any, .any, .d (.int .i64 (xs.map cLock).length), .d (.int .i64 k), .any, .any, .any, .any, .any, .any, .any, .any, .any, .any], []⟩) (fun k => k ≤ xs.length ∧ idxOf p xs 0 = idxOf p (xs.drop k) k) (fun k => xs.length - k) 0 [] ⟨Nat.zero_le _, by simp⟩ ?_ ?_
  · refine And.intro rfl (And.intro ?_ True.intro)
    repeat' (first | exact True.intro | exact rfl | refine And.intro ?_ ?_)
  · rintro k ⟨hk, hidx⟩
    conv => whnf
    refine And.intro (fun h_ => ?_) (fun h_ => ?_)
    · conv => whnf
      have hk' : k < xs.length := by simpa using h_
      obtain ⟨x, hx⟩ : ∃ x, xs[k]? = some x := ⟨_, List.getElem?_eq_getElem hk'⟩
      have hst := idxOf_step (p := p) hx
      refine ⟨by omega, cLock x, by simp [hx], rfl, ?_⟩
      conv => whnf
      refine ⟨_, _, hp x (List.mem_of_getElem? hx) _, True.intro, ?_⟩
      conv => whnf
      refine And.intro (fun h1 => ?_) (fun h1 => ?_)
      · conv => whnf
        refine ⟨[], rfl, ?_, True.intro⟩
        show DV.int .i64 (k : Int) = .int .i64 (idxOf p xs 0)
        rw [hidx, hst, h1]; rfl
      · conv => whnf
        intro z hz
        conv => whnf
        rw [wrap_small (by omega) (by omega)] at hz
        subst hz
        refine ⟨k + 1, [], ⟨by omega, ?_⟩, by omega, And.intro rfl (And.intro ?_ True.intro)⟩
        · rw [hidx, hst, h1]; rfl
        · repeat' (first | exact True.intro | exact rfl | refine And.intro ?_ ?_)
    · conv => whnf
      have hk' : k = xs.length := by simp at h_; omega
      refine ⟨[], rfl, ?_, True.intro⟩
      show DV.int .i64 (-1) = .int .i64 (idxOf p xs 0)
      rw [hidx, hk', List.drop_length]; rfl
def place (l : List Lock) (o : Int) : Int := idxOf (fun x => x.owner == o) l 0
theorem c44 (l : Locks) (o : Int) (hl : l.queue.length < 1000000) (H : List (List Blk)) : CallEq X H 44 [pLocks l, .d (.int .i64 o)] (.d (.int .i64 (place l.queue o))) [] := by
  unfold place
  refine callEq_of_body X_ok rfl Try.func44 rfl ?_
  conv => whnf
  repeat' (first
    | (refine And.intro (fun h_ => ?_) (fun h_ => ?_) <;> (conv => whnf))
    | (refine ⟨_, _, i83 (fun x => x.owner == o) 0 1 l.queue _ hl (fun x _ T => c83 x o _ _ _ _), (by first | exact True.intro | exact And.intro rfl flat_nil), ?_⟩; conv => whnf)
    | (intro z_ hz_; conv => whnf)
    | (refine ⟨[], rfl, ?_, True.intro⟩; (conv => whnf); (first | done | (simp_all only [refP, Bool.not_true, Bool.not_false, Bool.true_and, Bool.false_and, Bool.and_true, Bool.and_false, Bool.true_or, Bool.false_or, Bool.or_true, Bool.or_false, Bool.not_not, Bool.not_eq_true', Bool.not_eq_false', if_true, if_false, Bool.false_eq_true, Bool.true_eq_false, List.length_map]; done)))
    | fail)
/-! ### those that may not be -/
theorem c49 (x : Lock) (H : List (List Blk)) : CallEq X H 49 [pLock x] (.d (.bool (!lMay x))) [] := by
  refine callEq_of_body X_ok rfl Try.func49 rfl ?_
  conv => whnf
  repeat' (first
    | (refine And.intro (fun h_ => ?_) (fun h_ => ?_) <;> (conv => whnf))
    | (refine ⟨_, _, c50 x _, (by first | exact True.intro | exact And.intro rfl flat_nil), ?_⟩; conv => whnf)
    | (intro z_ hz_; conv => whnf)
    | (refine ⟨[], rfl, ?_, True.intro⟩; (conv => whnf); (first | done | (simp_all only [refP, Bool.not_true, Bool.not_false, Bool.true_and, Bool.false_and, Bool.and_true, Bool.and_false, Bool.true_or, Bool.false_or, Bool.or_true, Bool.or_false, Bool.not_not, Bool.not_eq_true', Bool.not_eq_false', if_true, if_false, Bool.false_eq_true, Bool.true_eq_false, List.length_map]; done)))
    | fail)
theorem i49 (p : Lock → Bool)  (xs : List Lock) (H : List (List Blk)) (hlen : xs.length < 1000000) (hp : ∀ x, x ∈ xs → ∀ T, CallEq X (T :: H) 49 [pLock x] (.d (.bool (p x))) []) :
    CallEq X H 82 [.d (.sl (xs.map cLock)), .func (.func 49) [] []] (.d (.int .i64 (idxOf p xs 0))) [] := by
  refine callEq_of_body X_ok rfl Try.func82 rfl ?_
  conv => whnf
  refine loopV_of (fun k : Nat => ⟨[.d (.sl (xs.map cLock)), .func (.func 49) [] [], .any, .any, .any, .any, .any, .d (.int .i64 (xs.map cLock).length), .d (.int .i64 k), .any, .any, .any, .any, .any, .any, .any, .any, .any, .any], []⟩) (fun k => k ≤ xs.length ∧ idxOf p xs 0 = idxOf p (xs.drop k) k) (fun k => xs.length - k) 0 [] ⟨Nat.zero_le _, by simp⟩ ?_ ?_
  · refine And.intro rfl (And.intro ?_ True.intro)
    repeat' (first | exact True.intro | exact rfl | refine And.intro ?_ ?_)
  · rintro k ⟨hk, hidx⟩
    conv => whnf
    refine And.intro (fun h_ => ?_) (fun h_ => ?_)
    · conv => whnf
      have hk' : k < xs.length := by simpa using h_
      obtain ⟨x, hx⟩ : ∃ x, xs[k]? = some x := ⟨_, List.getElem?_eq_getElem hk'⟩
      have hst := idxOf_step (p := p) hx
      refine ⟨by omega, cLock x, by simp [hx], rfl, ?_⟩
      conv => whnf
      refine ⟨_, _, hp x (List.mem_of_getElem? hx) _, True.intro, ?_⟩
      conv => whnf
      refine And.intro (fun h1 => ?_) (fun h1 => ?_)
      · conv => whnf
        refine ⟨[], rfl, ?_, True.intro⟩
        show DV.int .i64 (k : Int) = .int .i64 (idxOf p xs 0)
        rw [hidx, hst, h1]; rfl
      · conv => whnf
        intro z hz
        conv => whnf
        rw [wrap_small (by omega) (by omega)] at hz
        subst hz
        refine ⟨k + 1, [], ⟨by omega, ?_⟩, by omega, And.intro rfl (And.intro ?_ True.intro)⟩
        · rw [hidx, hst, h1]; rfl
        · repeat' (first | exact True.intro | exact rfl | refine And.intro ?_ ?_)
    · conv => whnf
      have hk' : k = xs.length := by simp at h_; omega
      refine ⟨[], rfl, ?_, True.intro⟩
      show DV.int .i64 (-1) = .int .i64 (idxOf p xs 0)
      rw [hidx, hk', List.drop_length]; rfl
theorem c51a (xs : List Lock) (hl : xs.length < 1000000) (H : List (List Blk)) : CallEq X H 51 [.d (encLocks xs), .func (.func 49) [] []] (.d (.bool (xs.any fun x => !lMay x))) [] := by
  rw [← idxOf_ge _ xs 0 (Int.le_refl _)]
  refine callEq_of_body X_ok rfl Try.func51 rfl ?_
  conv => whnf
  repeat' (first
    | (refine And.intro (fun h_ => ?_) (fun h_ => ?_) <;> (conv => whnf))
    | (refine ⟨_, _, i49 (fun x => !lMay x) xs _ hl (fun x _ T => c49 x _), (by first | exact True.intro | exact And.intro rfl flat_nil), ?_⟩; conv => whnf)
    | (intro z_ hz_; conv => whnf)
    | (refine ⟨[], rfl, ?_, True.intro⟩; (conv => whnf); (first | done | (simp_all only [refP, Bool.not_true, Bool.not_false, Bool.true_and, Bool.false_and, Bool.and_true, Bool.and_false, Bool.true_or, Bool.false_or, Bool.or_true, Bool.or_false, Bool.not_not, Bool.not_eq_true', Bool.not_eq_false', if_true, if_false, Bool.false_eq_true, Bool.true_eq_false, List.length_map]; done)))
    | fail)
end Go.Proofs.Ve

/- Locks that are weaker, or not single: contracts. -/
set_option maxRecDepth 100000
set_option linter.all false
namespace Go.Proofs.Ve
open Go
def bLock (x : Lock) : Blk := .box [.d (.int .i64 x.owner), .d (.bool x.whole), .d (.int .i64 x.span.t), .d (encB x.span.lo), .d (encB x.span.hi), .d (.bool x.span.op), .d (.int .i64 x.mode)]
def lWeak (x y : Lock) : Bool := x.whole && y.whole && x.owner == y.owner && x.span.t == y.span.t && !mCovers x.mode y.mode
theorem c90 (x y : Lock) (T1 T2 : List Blk) (B0 : Blk) (rest : List Blk) (H : List (List Blk)) : CallEq X (T1 :: T2 :: (B0 :: bLock x :: rest) :: H) 90 [pLock y, .ptr 3 1 0] (.d (.bool (lWeak x y))) [] := by
  unfold lWeak
  refine callEq_of_body X_ok rfl Try.func90 rfl ?_
  conv => whnf
  repeat' (first
    | (refine And.intro (fun h_ => ?_) (fun h_ => ?_) <;> (conv => whnf))
    | (refine ⟨_, _, c87 _ _ _, (by first | exact True.intro | exact And.intro rfl flat_nil), ?_⟩; conv => whnf)
    | (intro z_ hz_; conv => whnf)
    | (refine ⟨[], rfl, ?_, True.intro⟩; (conv => whnf); (first | done | (simp_all only [refP, Bool.not_true, Bool.not_false, Bool.true_and, Bool.false_and, Bool.and_true, Bool.and_false, Bool.true_or, Bool.false_or, Bool.or_true, Bool.or_false, Bool.not_not, Bool.not_eq_true', Bool.not_eq_false', if_true, if_false, Bool.false_eq_true, Bool.true_eq_false, List.length_map]; done)))
    | fail)
theorem i90 (p : Lock → Bool) (l0 i0 : Nat) (xs : List Lock) (H : List (List Blk)) (hlen : xs.length < 1000000) (hp : ∀ x, x ∈ xs → ∀ T, CallEq X (T :: H) 90 [pLock x, .ptr (l0 + 2) i0 0] (.d (.bool (p x))) []) :
    CallEq X H 82 [.d (.sl (xs.map cLock)), .func (.func 90) [] [.ptr (l0 + 1) i0 0]] (.d (.int .i64 (idxOf p xs 0))) [] := by
  refine callEq_of_body X_ok rfl Try.func82 rfl ?_
  conv => whnf
  refine loopV_of (fun k : Nat => ⟨[.d (.sl (xs.map cLock)), .func (.func 90) [] [.ptr (l0 + 1) i0 0], .any, .any, .any, .any, .any, .d (.int .i64 (xs.map cLock).length), .d (.int .i64 k), .any, .any, .any, .any, .any, .any, .any, .any, .any, .any], []⟩) (fun k => k ≤ xs.length ∧ idxOf p xs 0 = idxOf p (xs.drop k) k) (fun k => xs.length - k) 0 [] ⟨Nat.zero_le _, by simp⟩ ?_ ?_
  · refine And.intro rfl (And.intro ?_ True.intro)
    repeat' (first | exact True.intro | exact rfl | refine And.intro ?_ ?_)
  · rintro k ⟨hk, hidx⟩
    conv => whnf
    refine And.intro (fun h_ => ?_) (fun h_ => ?_)
    · conv => whnf
      have hk' : k < xs.length := by simpa using h_
      obtain ⟨x, hx⟩ : ∃ x, xs[k]? = some x := ⟨_, List.getElem?_eq_getElem hk'⟩
      have hst := idxOf_step (p := p) hx
      refine ⟨by omega, cLock x, by simp [hx], rfl, ?_⟩
      conv => whnf
      refine ⟨_, _, hp x (List.mem_of_getElem? hx) _, True.intro, ?_⟩
      conv => whnf
      refine And.intro (fun h1 => ?_) (fun h1 => ?_)
      · conv => whnf
        refine ⟨[], rfl, ?_, True.intro⟩
        show DV.int .i64 (k : Int) = .int .i64 (idxOf p xs 0)
        rw [hidx, hst, h1]; rfl
      · conv => whnf
        intro z hz
        conv => whnf
        rw [wrap_small (by omega) (by omega)] at hz
        subst hz
        refine ⟨k + 1, [], ⟨by omega, ?_⟩, by omega, And.intro rfl (And.intro ?_ True.intro)⟩
        · rw [hidx, hst, h1]; rfl
        · repeat' (first | exact True.intro | exact rfl | refine And.intro ?_ ?_)
    · conv => whnf
      have hk' : k = xs.length := by simp at h_; omega
      refine ⟨[], rfl, ?_, True.intro⟩
      show DV.int .i64 (-1) = .int .i64 (idxOf p xs 0)
      rw [hidx, hk', List.drop_length]; rfl
theorem c51b (p : Lock → Bool) (l0 i0 : Nat) (xs : List Lock) (hl : xs.length < 1000000) (H : List (List Blk)) (hp : ∀ x, x ∈ xs → ∀ T T', CallEq X (T :: T' :: H) 90 [pLock x, .ptr (l0 + 3) i0 0] (.d (.bool (p x))) []) : CallEq X H 51 [.d (encLocks xs), .func (.func 90) [] [.ptr (l0 + 1) i0 0]] (.d (.bool (xs.any p))) [] := by
  rw [← idxOf_ge _ xs 0 (Int.le_refl _)]
  refine callEq_of_body X_ok rfl Try.func51 rfl ?_
  conv => whnf
  repeat' (first
    | (refine And.intro (fun h_ => ?_) (fun h_ => ?_) <;> (conv => whnf))
    | (refine ⟨_, _, i90 p _ _ xs _ hl (fun x hx T => hp x hx T _), (by first | exact True.intro | exact And.intro rfl flat_nil), ?_⟩; conv => whnf)
    | (intro z_ hz_; conv => whnf)
    | (refine ⟨[], rfl, ?_, True.intro⟩; (conv => whnf); (first | done | (simp_all only [refP, Bool.not_true, Bool.not_false, Bool.true_and, Bool.false_and, Bool.and_true, Bool.and_false, Bool.true_or, Bool.false_or, Bool.or_true, Bool.or_false, Bool.not_not, Bool.not_eq_true', Bool.not_eq_false', if_true, if_false, Bool.false_eq_true, Bool.true_eq_false, List.length_map]; done)))
    | fail)
theorem c53 (l : Locks) (x : Lock) (hl : l.held.length < 1000000) (H : List (List Blk)) : CallEq X H 53 [pLocks l, pLock x] (.d (.bool (l.held.any (lWeak x)))) [] := by
  refine callEq_of_body X_ok rfl Try.func53 rfl ?_
  conv => whnf
  repeat' (first
    | (refine And.intro (fun h_ => ?_) (fun h_ => ?_) <;> (conv => whnf))
    | (refine ⟨_, _, c51b (lWeak x) 0 1 l.held hl _ (fun y _ T T' => c90 x y _ _ _ _ _), (by first | exact True.intro | exact And.intro rfl flat_nil), ?_⟩; conv => whnf)
    | (intro z_ hz_; conv => whnf)
    | (refine ⟨[], rfl, ?_, True.intro⟩; (conv => whnf); (first | done | (simp_all only [refP, Bool.not_true, Bool.not_false, Bool.true_and, Bool.false_and, Bool.and_true, Bool.and_false, Bool.true_or, Bool.false_or, Bool.or_true, Bool.or_false, Bool.not_not, Bool.not_eq_true', Bool.not_eq_false', if_true, if_false, Bool.false_eq_true, Bool.true_eq_false, List.length_map]; done)))
    | fail)
theorem i53 (p : Lock → Bool) (l : Locks) (xs : List Lock) (H : List (List Blk)) (hlen : xs.length < 1000000) (hp : ∀ x, x ∈ xs → ∀ T, CallEq X (T :: H) 53 [pLocks l, pLock x] (.d (.bool (p x))) []) :
    CallEq X H 82 [.d (.sl (xs.map cLock)), .func (.func 53) [pLocks l] []] (.d (.int .i64 (idxOf p xs 0))) [] := by
  refine callEq_of_body X_ok rfl Try.func82 rfl ?_
  conv => whnf
  refine loopV_of (fun k : Nat => ⟨[.d (.sl (xs.map cLock)), .func (.func 53) [pLocks l] [], .any, .any, .any, .any, .any, .d (.int .i64 (xs.map cLock).length), .d (.int .i64 k), .any, .any, .any, .any, .any, .any, .any, .any, .any, .any], []⟩) (fun k => k ≤ xs.length ∧ idxOf p xs 0 = idxOf p (xs.drop k) k) (fun k => xs.length - k) 0 [] ⟨Nat.zero_le _, by simp⟩ ?_ ?_
  · refine And.intro rfl (And.intro ?_ True.intro)
    repeat' (first | exact True.intro | exact rfl | refine And.intro ?_ ?_)
  · rintro k ⟨hk, hidx⟩
    conv => whnf
    refine And.intro (fun h_ => ?_) (fun h_ => ?_)
    · conv => whnf
      have hk' : k < xs.length := by simpa using h_
      obtain ⟨x, hx⟩ : ∃ x, xs[k]? = some x := ⟨_, List.getElem?_eq_getElem hk'⟩
      have hst := idxOf_step (p := p) hx
      refine ⟨by omega, cLock x, by simp [hx], rfl, ?_⟩
      conv => whnf
      refine ⟨_, _, hp x (List.mem_of_getElem? hx) _, True.intro, ?_⟩
      conv => whnf
      refine And.intro (fun h1 => ?_) (fun h1 => ?_)
      · conv => whnf
        refine ⟨[], rfl, ?_, True.intro⟩
        show DV.int .i64 (k : Int) = .int .i64 (idxOf p xs 0)
        rw [hidx, hst, h1]; rfl
      · conv => whnf
        intro z hz
        conv => whnf
        rw [wrap_small (by omega) (by omega)] at hz
        subst hz
        refine ⟨k + 1, [], ⟨by omega, ?_⟩, by omega, And.intro rfl (And.intro ?_ True.intro)⟩
        · rw [hidx, hst, h1]; rfl
        · repeat' (first | exact True.intro | exact rfl | refine And.intro ?_ ?_)
    · conv => whnf
      have hk' : k = xs.length := by simp at h_; omega
      refine ⟨[], rfl, ?_, True.intro⟩
      show DV.int .i64 (-1) = .int .i64 (idxOf p xs 0)
      rw [hidx, hk', List.drop_length]; rfl
theorem c51c (l : Locks) (xs : List Lock) (hl : xs.length < 1000000) (hl' : l.held.length < 1000000) (H : List (List Blk)) : CallEq X H 51 [.d (encLocks xs), .func (.func 53) [pLocks l] []] (.d (.bool (xs.any fun x => l.held.any (lWeak x)))) [] := by
  rw [← idxOf_ge _ xs 0 (Int.le_refl _)]
  refine callEq_of_body X_ok rfl Try.func51 rfl ?_
  conv => whnf
  repeat' (first
    | (refine And.intro (fun h_ => ?_) (fun h_ => ?_) <;> (conv => whnf))
    | (refine ⟨_, _, i53 (fun x => l.held.any (lWeak x)) l xs _ hl (fun x _ T => c53 l x hl' _), (by first | exact True.intro | exact And.intro rfl flat_nil), ?_⟩; conv => whnf)
    | (intro z_ hz_; conv => whnf)
    | (refine ⟨[], rfl, ?_, True.intro⟩; (conv => whnf); (first | done | (simp_all only [refP, Bool.not_true, Bool.not_false, Bool.true_and, Bool.false_and, Bool.and_true, Bool.and_false, Bool.true_or, Bool.false_or, Bool.or_true, Bool.or_false, Bool.not_not, Bool.not_eq_true', Bool.not_eq_false', if_true, if_false, Bool.false_eq_true, Bool.true_eq_false, List.length_map]; done)))
    | fail)
def lTwice (x y : Lock) : Bool := lClash x y || (x.whole && y.whole && x.owner == y.owner && x.span.t == y.span.t)
theorem c89 (x y : Lock) (T1 T2 : List Blk) (B0 : Blk) (rest : List Blk) (H : List (List Blk)) : CallEq X (T1 :: T2 :: (B0 :: bLock x :: rest) :: H) 89 [pLock y, .ptr 3 1 0] (.d (.bool (lTwice x y))) [] := by
  unfold lTwice
  refine callEq_of_body X_ok rfl Try.func89 rfl ?_
  conv => whnf
  repeat' (first
    | (refine And.intro (fun h_ => ?_) (fun h_ => ?_) <;> (conv => whnf))
    | (refine ⟨_, _, c21 x y _, (by first | exact True.intro | exact And.intro rfl flat_nil), ?_⟩; conv => whnf)
    | (intro z_ hz_; conv => whnf)
    | (refine ⟨[], rfl, ?_, True.intro⟩; (conv => whnf); (first | done | (simp_all only [refP, Bool.not_true, Bool.not_false, Bool.true_and, Bool.false_and, Bool.and_true, Bool.and_false, Bool.true_or, Bool.false_or, Bool.or_true, Bool.or_false, Bool.not_not, Bool.not_eq_true', Bool.not_eq_false', if_true, if_false, Bool.false_eq_true, Bool.true_eq_false, List.length_map]; done)))
    | fail)
theorem i89 (p : Lock → Bool) (l0 i0 : Nat) (xs : List Lock) (H : List (List Blk)) (hlen : xs.length < 1000000) (hp : ∀ x, x ∈ xs → ∀ T, CallEq X (T :: H) 89 [pLock x, .ptr (l0 + 2) i0 0] (.d (.bool (p x))) []) :
    CallEq X H 82 [.d (.sl (xs.map cLock)), .func (.func 89) [] [.ptr (l0 + 1) i0 0]] (.d (.int .i64 (idxOf p xs 0))) [] := by
  refine callEq_of_body X_ok rfl Try.func82 rfl ?_
  conv => whnf
  refine loopV_of (fun k : Nat => ⟨[.d (.sl (xs.map cLock)), .func (.func 89) [] [.ptr (l0 + 1) i0 0], .any, .any, .any, .any, .any, .d (.int .i64 (xs.map cLock).length), .d (.int .i64 k), .any, .any, .any, .any, .any, .any, .any, .any, .any, .any], []⟩) (fun k => k ≤ xs.length ∧ idxOf p xs 0 = idxOf p (xs.drop k) k) (fun k => xs.length - k) 0 [] ⟨Nat.zero_le _, by simp⟩ ?_ ?_
  · refine And.intro rfl (And.intro ?_ True.intro)
    repeat' (first | exact True.intro | exact rfl | refine And.intro ?_ ?_)
  · rintro k ⟨hk, hidx⟩
    conv => whnf
    refine And.intro (fun h_ => ?_) (fun h_ => ?_)
    · conv => whnf
      have hk' : k < xs.length := by simpa using h_
      obtain ⟨x, hx⟩ : ∃ x, xs[k]? = some x := ⟨_, List.getElem?_eq_getElem hk'⟩
      have hst := idxOf_step (p := p) hx
      refine ⟨by omega, cLock x, by simp [hx], rfl, ?_⟩
      conv => whnf
      refine ⟨_, _, hp x (List.mem_of_getElem? hx) _, True.intro, ?_⟩
      conv => whnf
      refine And.intro (fun h1 => ?_) (fun h1 => ?_)
      · conv => whnf
        refine ⟨[], rfl, ?_, True.intro⟩
        show DV.int .i64 (k : Int) = .int .i64 (idxOf p xs 0)
        rw [hidx, hst, h1]; rfl
      · conv => whnf
        intro z hz
        conv => whnf
        rw [wrap_small (by omega) (by omega)] at hz
        subst hz
        refine ⟨k + 1, [], ⟨by omega, ?_⟩, by omega, And.intro rfl (And.intro ?_ True.intro)⟩
        · rw [hidx, hst, h1]; rfl
        · repeat' (first | exact True.intro | exact rfl | refine And.intro ?_ ?_)
    · conv => whnf
      have hk' : k = xs.length := by simp at h_; omega
      refine ⟨[], rfl, ?_, True.intro⟩
      show DV.int .i64 (-1) = .int .i64 (idxOf p xs 0)
      rw [hidx, hk', List.drop_length]; rfl
theorem c51d (p : Lock → Bool) (l0 i0 : Nat) (xs : List Lock) (hl : xs.length < 1000000) (H : List (List Blk)) (hp : ∀ x, x ∈ xs → ∀ T T', CallEq X (T :: T' :: H) 89 [pLock x, .ptr (l0 + 3) i0 0] (.d (.bool (p x))) []) : CallEq X H 51 [.d (encLocks xs), .func (.func 89) [] [.ptr (l0 + 1) i0 0]] (.d (.bool (xs.any p))) [] := by
  rw [← idxOf_ge _ xs 0 (Int.le_refl _)]
  refine callEq_of_body X_ok rfl Try.func51 rfl ?_
  conv => whnf
  repeat' (first
    | (refine And.intro (fun h_ => ?_) (fun h_ => ?_) <;> (conv => whnf))
    | (refine ⟨_, _, i89 p _ _ xs _ hl (fun x hx T => hp x hx T _), (by first | exact True.intro | exact And.intro rfl flat_nil), ?_⟩; conv => whnf)
    | (intro z_ hz_; conv => whnf)
    | (refine ⟨[], rfl, ?_, True.intro⟩; (conv => whnf); (first | done | (simp_all only [refP, Bool.not_true, Bool.not_false, Bool.true_and, Bool.false_and, Bool.and_true, Bool.and_false, Bool.true_or, Bool.false_or, Bool.or_true, Bool.or_false, Bool.not_not, Bool.not_eq_true', Bool.not_eq_false', if_true, if_false, Bool.false_eq_true, Bool.true_eq_false, List.length_map]; done)))
    | fail)
end Go.Proofs.Ve

/- Whether the locks held are single: a contract. -/
set_option maxRecDepth 100000
set_option linter.all false
namespace Go.Proofs.Ve
open Go
def singleFrom (pre : List Lock) : List Lock → Bool
  | [] => true
  | x :: xs => bif pre.any (lTwice x) then false else singleFrom (pre ++ [x]) xs
theorem single_step {l : List Lock} {k : Nat} {x : Lock} (h : l[k]? = some x) : singleFrom (l.take k) (l.drop k) = bif (l.take k).any (lTwice x) then false else singleFrom (l.take (k + 1)) (l.drop (k + 1)) := by
  have hk := (List.getElem?_eq_some_iff.1 h).1
  have hx : l[k] = x := (List.getElem?_eq_some_iff.1 h).2
  rw [List.drop_eq_getElem_cons hk, hx, singleFrom, List.take_add_one, h]; rfl
theorem c52 (l : Locks) (hl : l.held.length < 1000000) (H : List (List Blk)) : CallEq X H 52 [pLocks l] (.d (.bool (singleFrom [] l.held))) [] := by
  refine callEq_of_body X_ok rfl Try.func52 rfl ?_
  conv => whnf
  refine loopV_of (fun k : Nat => ⟨[.any, .ptr 0 0 0, .any, .any, .any, .any, .any, .any, .d (encLocks l.held), .d (.int .i64 (l.held.map cLock).length), .d (.int .i64 k), .any, .any, .any, .any, .any, .any, .any, .any, .any, .any, .any, .any, .any], [.box [.d (encLocks l.held), .d (encLocks l.queue)]]⟩)
    (fun k => k ≤ l.held.length ∧ singleFrom [] l.held = singleFrom (l.held.take k) (l.held.drop k)) (fun k => l.held.length - k) 0 [0] ⟨Nat.zero_le _, rfl⟩ ?_ ?_
  · refine And.intro rfl (And.intro ?_ ?_)
    all_goals repeat' (first | exact True.intro | exact rfl | refine And.intro ?_ ?_)
  · rintro k ⟨hk, hidx⟩
    conv => whnf
    refine And.intro (fun h_ => ?_) (fun h_ => ?_)
    · conv => whnf
      have hk' : k < l.held.length := by simpa using h_
      obtain ⟨x, hx⟩ : ∃ x, l.held[k]? = some x := ⟨_, List.getElem?_eq_getElem hk'⟩
      have hst := single_step hx
      refine ⟨by omega, cLock x, by simp [hx], rfl, ?_⟩
      conv => whnf
      refine ⟨by omega, by simp; omega, ?_⟩
      conv => whnf
      have hc := fun (B0 : Blk) (rest : List Blk) (H : List (List Blk)) => c51d (lTwice x) 0 1 (l.held.take k) (by simp; omega) ((B0 :: bLock x :: rest) :: H) (fun y _ T T' => c89 x y T T' B0 rest H)
      rw [show encLocks (l.held.take k) = .sl (List.take (k : Int).toNat (l.held.map cLock)) by rw [encLocks, List.map_take]; rfl] at hc
      refine ⟨_, _, hc _ _ _, True.intro, ?_⟩
      conv => whnf
      refine And.intro (fun h1 => ?_) (fun h1 => ?_)
      · conv => whnf
        refine ⟨[], rfl, ?_, True.intro⟩
        show DV.bool false = .bool (singleFrom [] l.held)
        rw [hidx, hst, h1]; rfl
      · conv => whnf
        intro z hz
        conv => whnf
        rw [wrap_small (by omega) (by omega)] at hz
        subst hz
        refine ⟨k + 1, [0], ⟨by omega, ?_⟩, by omega, And.intro rfl (And.intro ?_ ?_)⟩
        · rw [hidx, hst, h1]; rfl
        all_goals repeat' (first | exact True.intro | exact rfl | refine And.intro ?_ ?_)
    · conv => whnf
      have hk' : k = l.held.length := by simp at h_; omega
      refine ⟨[], rfl, ?_, True.intro⟩
      show DV.bool true = .bool (singleFrom [] l.held)
      rw [hidx, hk', List.drop_length]; rfl
end Go.Proofs.Ve

/- The document's place of an owner's, and what it says covers; numbers that are the same. -/
set_option maxRecDepth 100000
set_option linter.all false
namespace Go.Proofs.Ve
open Go
def encI (l : List Int) : DV := .sl (l.map fun x => [.int .i64 x])
def sameFrom : List Int → List Int → Bool
  | [], _ => true
  | x :: xs, ys => match ys with | [] => true | y :: ys => bif x != y then false else sameFrom xs ys
theorem same_step {l m : List Int} {k : Nat} {x y : Int} (h : l[k]? = some x) (h' : m[k]? = some y) : sameFrom (l.drop k) (m.drop k) = bif x != y then false else sameFrom (l.drop (k + 1)) (m.drop (k + 1)) := by
  have hk := (List.getElem?_eq_some_iff.1 h).1
  have hm := (List.getElem?_eq_some_iff.1 h').1
  rw [List.drop_eq_getElem_cons hk, List.drop_eq_getElem_cons hm, (List.getElem?_eq_some_iff.1 h).2, (List.getElem?_eq_some_iff.1 h').2, sameFrom]
def numbers (a b : List Int) : Bool := if ((a.map fun x => [DV.int .i64 x]).length : Int) != ((b.map fun x => [DV.int .i64 x]).length : Int) then false else sameFrom a b
theorem c55 (a b : Int) (H : List (List Blk)) : CallEq X H 55 [.d (.int .i64 a), .d (.int .i64 b)] (.d (.bool (rCovers a b))) [] := by
  unfold rCovers and64
  refine callEq_of_body X_ok rfl Try.func55 rfl ?_
  conv => whnf
  repeat' (first
    | (refine And.intro (fun h_ => ?_) (fun h_ => ?_) <;> (conv => whnf))
    | (refine ⟨_, _, c91 _ _, (by first | exact True.intro | exact And.intro rfl flat_nil), ?_⟩; conv => whnf)
    | (intro z_ hz_; conv => whnf)
    | (refine ⟨[], rfl, ?_, True.intro⟩; (conv => whnf); (first | done | (simp_all only [refP, Bool.not_true, Bool.not_false, Bool.true_and, Bool.false_and, Bool.and_true, Bool.and_false, Bool.true_or, Bool.false_or, Bool.or_true, Bool.or_false, Bool.not_not, Bool.not_eq_true', Bool.not_eq_false', if_true, if_false, Bool.false_eq_true, Bool.true_eq_false, List.length_map]; done)))
    | fail)
theorem c46 (l : Locks) (o : Int) (hl : l.queue.length < 1000000) (H : List (List Blk)) : CallEq X H 46 [pLocks l, .d (.int .i64 o)] (.d (.int .i64 (place l.queue o))) [] := by
  unfold place
  refine callEq_of_body X_ok rfl Try.func46 rfl ?_
  conv => whnf
  refine loopV_of (fun k : Nat => ⟨[.any, .d (.int .i64 o), .ptr 0 0 0, .any, .any, .d (.int .i64 k), .any, .any, .any, .any, .any, .any, .any, .any, .any, .any, .any, .any, .any, .any, .any, .any], [.box [.d (encLocks l.held), .d (encLocks l.queue)]]⟩)
    (fun k => k ≤ l.queue.length ∧ idxOf (fun x => x.owner == o) l.queue 0 = idxOf (fun x => x.owner == o) (l.queue.drop k) k) (fun k => l.queue.length - k) 0 [0] ⟨Nat.zero_le _, rfl⟩ ?_ ?_
  · refine And.intro rfl (And.intro ?_ ?_)
    all_goals repeat' (first | exact True.intro | exact rfl | refine And.intro ?_ ?_)
  · rintro k ⟨hk, hidx⟩
    conv => whnf
    refine And.intro (fun h_ => ?_) (fun h_ => ?_)
    · conv => whnf
      have hk' : k < l.queue.length := by simpa using h_
      obtain ⟨x, hx⟩ : ∃ x, l.queue[k]? = some x := ⟨_, List.getElem?_eq_getElem hk'⟩
      have hst := idxOf_step (p := fun x => x.owner == o) hx
      refine ⟨by omega, cLock x, by simp [hx], rfl, ?_⟩
      conv => whnf
      refine And.intro (fun h1 => ?_) (fun h1 => ?_)
      · conv => whnf
        refine ⟨[], rfl, ?_, True.intro⟩
        show DV.int .i64 (k : Int) = .int .i64 (idxOf (fun x => x.owner == o) l.queue 0)
        rw [hidx, hst, h1]; rfl
      · conv => whnf
        intro z hz
        conv => whnf
        rw [wrap_small (by omega) (by omega)] at hz
        subst hz
        refine ⟨k + 1, [0], ⟨by omega, ?_⟩, by omega, And.intro rfl (And.intro ?_ ?_)⟩
        · rw [hidx, hst, h1]; rfl
        all_goals repeat' (first | exact True.intro | exact rfl | refine And.intro ?_ ?_)
    · conv => whnf
      have hk' : k = l.queue.length := by simp at h_; omega
      refine ⟨[], rfl, ?_, True.intro⟩
      show DV.int .i64 (-1) = .int .i64 (idxOf (fun x => x.owner == o) l.queue 0)
      rw [hidx, hk', List.drop_length]; rfl
theorem c16 (a b : List Int) (ha : a.length < 1000000) (H : List (List Blk)) : CallEq X H 16 [.d (encI a), .d (encI b)] (.d (.bool (numbers a b))) [] := by
  refine callEq_of_body X_ok rfl Try.func16 rfl ?_
  conv => whnf
  refine And.intro (fun h0 => ?_) (fun h0 => ?_)
  · conv => whnf
    refine ⟨[], rfl, ?_, True.intro⟩
    show DV.bool false = .bool (numbers a b)
    unfold numbers; rw [if_pos h0]
  · conv => whnf
    have hlen : a.length = b.length := by simp at h0; omega
    have hn : numbers a b = sameFrom a b := by unfold numbers; rw [h0]; rfl
    refine loopV_of (fun k : Nat => ⟨[.d (encI a), .d (encI b), .any, .any, .any, .d (.int .i64 k), .any, .any, .any, .any, .any, .any, .any, .any, .any, .any, .any, .any, .any, .any, .any, .any, .any, .any, .any, .any], []⟩)
      (fun k => k ≤ a.length ∧ numbers a b = sameFrom (a.drop k) (b.drop k)) (fun k => a.length - k) 0 [] ⟨Nat.zero_le _, hn⟩ ?_ ?_
    · refine And.intro rfl (And.intro ?_ ?_)
      all_goals repeat' (first | exact True.intro | exact rfl | refine And.intro ?_ ?_)
    · rintro k ⟨hk, hidx⟩
      conv => whnf
      refine And.intro (fun h_ => ?_) (fun h_ => ?_)
      · conv => whnf
        have hk' : k < a.length := by simpa using h_
        obtain ⟨x, hx⟩ : ∃ x, a[k]? = some x := ⟨_, List.getElem?_eq_getElem hk'⟩
        obtain ⟨y, hy⟩ : ∃ y, b[k]? = some y := ⟨_, List.getElem?_eq_getElem (by omega)⟩
        have hst := same_step hx hy
        refine ⟨by omega, [.int .i64 x], by simp [hx], rfl, ?_⟩
        conv => whnf
        refine ⟨by omega, [.int .i64 y], by simp [hy], rfl, ?_⟩
        conv => whnf
        refine And.intro (fun h1 => ?_) (fun h1 => ?_)
        · conv => whnf
          refine ⟨[], rfl, ?_, True.intro⟩
          show DV.bool false = .bool (numbers a b)
          rw [hidx, hst, h1]; rfl
        · conv => whnf
          intro z hz
          conv => whnf
          rw [wrap_small (by omega) (by omega)] at hz
          subst hz
          refine ⟨k + 1, [], ⟨by omega, ?_⟩, by omega, And.intro rfl (And.intro ?_ ?_)⟩
          · rw [hidx, hst, h1]; rfl
          all_goals repeat' (first | exact True.intro | exact rfl | refine And.intro ?_ ?_)
      · conv => whnf
        have hk' : k = a.length := by simp at h_; omega
        refine ⟨[], rfl, ?_, True.intro⟩
        show DV.bool true = .bool (numbers a b)
        rw [hidx, hk', List.drop_length]; rfl
end Go.Proofs.Ve

/- A few locks, of short spans. -/
set_option maxRecDepth 100000
set_option linter.all false
namespace Go.Proofs.Ve
open Go
def lLong (x : Lock) : Bool := decide (((x.span.lo.map fun b => [DV.int .u8 b.toNat]).length : Int) > 100) || decide (((x.span.hi.map fun b => [DV.int .u8 b.toNat]).length : Int) > 100)
def noLong : List Lock → Bool
  | [] => true
  | x :: xs => bif lLong x then false else noLong xs
theorem noLong_step {l : List Lock} {k : Nat} {x : Lock} (h : l[k]? = some x) : noLong (l.drop k) = bif lLong x then false else noLong (l.drop (k + 1)) := by
  have hk := (List.getElem?_eq_some_iff.1 h).1
  rw [List.drop_eq_getElem_cons hk, (List.getElem?_eq_some_iff.1 h).2, noLong]
def few (l : Locks) : Bool := if decide (((l.held.map cLock).length : Int) > 60) || decide (((l.queue.map cLock).length : Int) > 60) then false else bif noLong l.held then noLong l.queue else false
theorem long_a {x : Lock} (h : decide (((x.span.lo.map fun b => [DV.int .u8 b.toNat]).length : Int) > 100) = true) : lLong x = true := by unfold lLong; rw [h]; rfl
theorem long_b {x : Lock} (h : decide (((x.span.lo.map fun b => [DV.int .u8 b.toNat]).length : Int) > 100) = false) (h' : decide (((x.span.hi.map fun b => [DV.int .u8 b.toNat]).length : Int) > 100) = true) : lLong x = true := by unfold lLong; rw [h, h']; rfl
theorem long_c {x : Lock} (h : decide (((x.span.lo.map fun b => [DV.int .u8 b.toNat]).length : Int) > 100) = false) (h' : decide (((x.span.hi.map fun b => [DV.int .u8 b.toNat]).length : Int) > 100) = false) : lLong x = false := by unfold lLong; rw [h, h']; rfl
theorem c14 (l : Locks) (H : List (List Blk)) : CallEq X H 14 [pLocks l] (.d (.bool (few l))) [] := by
  refine callEq_of_body X_ok rfl Try.func14 rfl ?_
  conv => whnf
  have fin : decide (((l.held.map cLock).length : Int) > 60) = false → decide (((l.queue.map cLock).length : Int) > 60) = false → few l = bif noLong l.held then noLong l.queue else false := fun h1 h2 => by unfold few; rw [h1, h2]; rfl
  refine And.intro (fun h1 => ?_) (fun h1 => ?_) <;> (conv => whnf)
  · refine And.intro (fun h2 => ?_) (fun h2 => ?_) <;> (conv => whnf)
    · refine ⟨[], rfl, ?_, True.intro⟩
      show DV.bool false = .bool (few l)
      unfold few; rw [h1, h2]; rfl
    · have hf := fin h1 h2
      have b1 : l.held.length ≤ 60 := by simp at h1; omega
      have b2 : l.queue.length ≤ 60 := by simp at h2; omega
      refine loopV_of (fun k : Nat => ⟨[.any, .ptr 0 0 0, .any, .d (.int .i64 k), .any, .any, .any, .any, .any, .any, .any, .any, .any, .any, .any, .any, .any, .any, .any, .any, .any, .any, .any, .any, .any, .any, .any, .any, .any, .any, .any, .any, .any, .any, .any, .any, .any, .any, .any, .any, .any, .any, .any, .any, .any, .any, .any, .any, .any, .any, .any, .any, .any, .any, .any, .any, .any, .any, .any, .any, .any, .any, .any, .any, .any, .any, .any, .any, .any], [.box [.d (encLocks l.held), .d (encLocks l.queue)]]⟩)
        (fun k => k ≤ l.held.length ∧ noLong l.held = noLong (l.held.drop k)) (fun k => l.held.length - k) 0 [0] ⟨Nat.zero_le _, rfl⟩ ?_ ?_
      · refine And.intro rfl (And.intro ?_ ?_)
        all_goals repeat' (first | exact True.intro | exact rfl | refine And.intro ?_ ?_)
      · rintro k ⟨hk, hidx⟩
        conv => whnf
        refine And.intro (fun h_ => ?_) (fun h_ => ?_)
        · conv => whnf
          have hk' : k < l.held.length := by simpa using h_
          obtain ⟨x, hx⟩ : ∃ x, l.held[k]? = some x := ⟨_, List.getElem?_eq_getElem hk'⟩
          have hst := noLong_step hx
          have out : lLong x = true → DV.bool false = .bool (few l) := fun h => by rw [hf, hidx, hst, h]; rfl
          have next : lLong x = false → noLong l.held = noLong (l.held.drop (k + 1)) := fun h => by rw [hidx, hst, h]; rfl
          refine ⟨by omega, cLock x, by simp [hx], rfl, ?_⟩
          conv => whnf
          refine And.intro (fun h3 => ?_) (fun h3 => ?_) <;> (conv => whnf)
          · refine ⟨by omega, cLock x, by simp [hx], rfl, ?_⟩
            conv => whnf
            refine And.intro (fun h4 => ?_) (fun h4 => ?_) <;> (conv => whnf)
            · exact ⟨[], rfl, out (long_b h3 h4), True.intro⟩
            · intro z hz
              conv => whnf
              rw [wrap_small (by omega) (by omega)] at hz
              subst hz
              refine ⟨k + 1, [0], ⟨by omega, next (long_c h3 h4)⟩, by omega, And.intro rfl (And.intro ?_ ?_)⟩
              all_goals repeat' (first | exact True.intro | exact rfl | refine And.intro ?_ ?_)
          · exact ⟨[], rfl, out (long_a h3), True.intro⟩
        · conv => whnf
          have hk' : k = l.held.length := by simp at h_; omega
          have hh : noLong l.held = true := by rw [hidx, hk', List.drop_length]; rfl
          have hf2 : few l = noLong l.queue := by rw [hf, hh]; rfl
          refine loopV_of (fun k : Nat => ⟨[.any, .ptr 0 0 0, .any, .any, .d (.int .i64 k), .any, .any, .any, .any, .any, .any, .any, .any, .any, .any, .any, .any, .any, .any, .any, .any, .any, .any, .any, .any, .any, .any, .any, .any, .any, .any, .any, .any, .any, .any, .any, .any, .any, .any, .any, .any, .any, .any, .any, .any, .any, .any, .any, .any, .any, .any, .any, .any, .any, .any, .any, .any, .any, .any, .any, .any, .any, .any, .any, .any, .any, .any, .any, .any], [.box [.d (encLocks l.held), .d (encLocks l.queue)]]⟩)
            (fun k => k ≤ l.queue.length ∧ few l = noLong (l.queue.drop k)) (fun k => l.queue.length - k) 0 [0] ⟨Nat.zero_le _, hf2⟩ ?_ ?_
          · refine And.intro rfl (And.intro ?_ ?_)
            all_goals repeat' (first | exact True.intro | exact rfl | refine And.intro ?_ ?_)
          · rintro k ⟨hk, hidx⟩
            conv => whnf
            refine And.intro (fun h_ => ?_) (fun h_ => ?_)
            · conv => whnf
              have hk' : k < l.queue.length := by simpa using h_
              obtain ⟨x, hx⟩ : ∃ x, l.queue[k]? = some x := ⟨_, List.getElem?_eq_getElem hk'⟩
              have hst := noLong_step hx
              have out : lLong x = true → DV.bool false = .bool (few l) := fun h => by rw [hidx, hst, h]; rfl
              have next : lLong x = false → few l = noLong (l.queue.drop (k + 1)) := fun h => by rw [hidx, hst, h]; rfl
              refine ⟨by omega, cLock x, by simp [hx], rfl, ?_⟩
              conv => whnf
              refine And.intro (fun h3 => ?_) (fun h3 => ?_) <;> (conv => whnf)
              · refine ⟨by omega, cLock x, by simp [hx], rfl, ?_⟩
                conv => whnf
                refine And.intro (fun h4 => ?_) (fun h4 => ?_) <;> (conv => whnf)
                · exact ⟨[], rfl, out (long_b h3 h4), True.intro⟩
                · intro z hz
                  conv => whnf
                  rw [wrap_small (by omega) (by omega)] at hz
                  subst hz
                  refine ⟨k + 1, [0], ⟨by omega, next (long_c h3 h4)⟩, by omega, And.intro rfl (And.intro ?_ ?_)⟩
                  all_goals repeat' (first | exact True.intro | exact rfl | refine And.intro ?_ ?_)
              · exact ⟨[], rfl, out (long_a h3), True.intro⟩
            · conv => whnf
              have hk' : k = l.queue.length := by simp at h_; omega
              refine ⟨[], rfl, ?_, True.intro⟩
              show DV.bool true = .bool (few l)
              rw [hidx, hk', List.drop_length]; rfl
  · refine ⟨[], rfl, ?_, True.intro⟩
    show DV.bool false = .bool (few l)
    unfold few; rw [h1]; rfl
end Go.Proofs.Ve

/- What covers, serves, is the same. -/
set_option maxRecDepth 100000
set_option linter.all false
namespace Go.Proofs.Ve
open Go
def sCovers (a b : Span) : Bool :=
  if sEmpty b then true
  else if a.t != b.t || decide (cmpB a.lo b.lo > 0) then false
  else a.op || (!b.op && decide (cmpB b.hi a.hi ≤ 0))
theorem c106 (a b : Span) (H : List (List Blk)) : CallEq X H 106 [pSpan a, pSpan b] (.d (.bool (sCovers a b))) [] := by
  unfold sCovers
  refine callEq_of_body X_ok rfl Try.func106 rfl ?_
  conv => whnf
  repeat' (first
    | (refine And.intro (fun h_ => ?_) (fun h_ => ?_) <;> (conv => whnf))
    | (refine ⟨_, _, c88 b _, (by first | exact True.intro | exact And.intro rfl flat_nil), ?_⟩; conv => whnf)
    | (refine ⟨_, _, c96 _ _ _, (by first | exact True.intro | exact And.intro rfl flat_nil), ?_⟩; conv => whnf)
    | (intro z_ hz_; conv => whnf)
    | (refine ⟨[], rfl, ?_, True.intro⟩; (conv => whnf); (first | done | (simp_all only [refP, Bool.not_true, Bool.not_false, Bool.true_and, Bool.false_and, Bool.and_true, Bool.and_false, Bool.true_or, Bool.false_or, Bool.or_true, Bool.or_false, Bool.not_not, Bool.not_eq_true', Bool.not_eq_false', if_true, if_false, Bool.false_eq_true, Bool.true_eq_false, List.length_map]; done)))
    | fail)
def lServes (h x : Lock) : Bool :=
  if (h.owner != x.owner || h.span.t != x.span.t) || (x.whole && !h.whole) then false
  else if h.whole then mCovers h.mode x.mode
  else sCovers h.span x.span && (h.mode == 5 || h.mode == x.mode)
theorem c66 (h x : Lock) (H : List (List Blk)) : CallEq X H 66 [pLock h, pLock x] (.d (.bool (lServes h x))) [] := by
  unfold lServes
  refine callEq_of_body X_ok rfl Try.func66 rfl ?_
  conv => whnf
  repeat' (first
    | (refine And.intro (fun h_ => ?_) (fun h_ => ?_) <;> (conv => whnf))
    | (refine ⟨_, _, c87 _ _ _, (by first | exact True.intro | exact And.intro rfl flat_nil), ?_⟩; conv => whnf)
    | (refine ⟨_, _, c106 h.span x.span _, (by first | exact True.intro | exact And.intro rfl flat_nil), ?_⟩; conv => whnf)
    | (intro z_ hz_; conv => whnf)
    | (refine ⟨[], rfl, ?_, True.intro⟩; (conv => whnf); (first | done | (simp_all only [refP, Bool.not_true, Bool.not_false, Bool.true_and, Bool.false_and, Bool.and_true, Bool.and_false, Bool.true_or, Bool.false_or, Bool.or_true, Bool.or_false, Bool.not_not, Bool.not_eq_true', Bool.not_eq_false', if_true, if_false, Bool.false_eq_true, Bool.true_eq_false, List.length_map]; done)))
    | fail)
def sOne (a b : Span) : Bool := a.t == b.t && eqB a.lo b.lo && eqB a.hi b.hi && a.op == b.op
theorem c108 (a b : Span) (H : List (List Blk)) : CallEq X H 108 [pSpan a, pSpan b] (.d (.bool (sOne a b))) [] := by
  unfold sOne eqB toBA
  refine callEq_of_body X_ok rfl Try.func108 rfl ?_
  conv => whnf
  repeat' (first
    | (refine And.intro (fun h_ => ?_) (fun h_ => ?_) <;> (conv => whnf))
    | (refine ⟨_, rfl, ?_⟩; conv => whnf)
    | (intro z_ hz_; conv => whnf)
    | (refine ⟨[], rfl, ?_, True.intro⟩; (conv => whnf); (first | done | (simp_all only [refP, Bool.not_true, Bool.not_false, Bool.true_and, Bool.false_and, Bool.and_true, Bool.and_false, Bool.true_or, Bool.false_or, Bool.or_true, Bool.or_false, Bool.not_not, Bool.not_eq_true', Bool.not_eq_false', if_true, if_false, Bool.false_eq_true, Bool.true_eq_false, List.length_map]; done)))
    | fail)
def mAbove (m : Int) : Int := if m == 1 then 1 else if m == 3 then 1 else if m == 2 then 2 else if m == 4 then 2 else if m == 5 then 2 else 0
theorem c113 (m : Int) (H : List (List Blk)) : CallEq X H 113 [.d (.int .i64 m)] (.d (.int .i64 (mAbove m))) [] := by
  unfold mAbove
  refine callEq_of_body X_ok rfl Try.func113 rfl ?_
  conv => whnf
  repeat' (first
    | (refine And.intro (fun h_ => ?_) (fun h_ => ?_) <;> (conv => whnf))
    | (intro z_ hz_; conv => whnf)
    | (refine ⟨[], rfl, ?_, True.intro⟩; (conv => whnf); (first | done | (simp_all only [refP, Bool.not_true, Bool.not_false, Bool.true_and, Bool.false_and, Bool.and_true, Bool.and_false, Bool.true_or, Bool.false_or, Bool.or_true, Bool.or_false, Bool.not_not, Bool.not_eq_true', Bool.not_eq_false', if_true, if_false, Bool.false_eq_true, Bool.true_eq_false, List.length_map]; done)))
    | fail)
def wIs (o : Int) : Bool := decide (o ≥ 0) && decide (o < 4)
theorem c109 (o : Int) (H : List (List Blk)) : CallEq X H 109 [.d (.int .i64 o)] (.d (.bool (wIs o))) [] := by
  unfold wIs
  refine callEq_of_body X_ok rfl Try.func109 rfl ?_
  conv => whnf
  repeat' (first
    | (refine And.intro (fun h_ => ?_) (fun h_ => ?_) <;> (conv => whnf))
    | (intro z_ hz_; conv => whnf)
    | (refine ⟨[], rfl, ?_, True.intro⟩; (conv => whnf); (first | done | (simp_all only [refP, Bool.not_true, Bool.not_false, Bool.true_and, Bool.false_and, Bool.and_true, Bool.and_false, Bool.true_or, Bool.false_or, Bool.or_true, Bool.or_false, Bool.not_not, Bool.not_eq_true', Bool.not_eq_false', if_true, if_false, Bool.false_eq_true, Bool.true_eq_false, List.length_map]; done)))
    | fail)
end Go.Proofs.Ve

/- Contracts of the library's, off the shelf, as the value machine's: what is new, what was turned in place. -/
set_option linter.all false
namespace Go.Proofs.Ve
open Go Go.RowKit

/-- A new row, nothing else turned. -/
theorem new_row {m : M} {H : List (List Blk)} (hinv : Inv m [] H) (hfree : ∀ i, m.ρ 0 i = none) {w' : World} {v : Value} {e sz : Nat} {xs : List (List DV)} {flat : List Value} (h0 : 0 < sz) (hxs : ∀ x ∈ xs, x.length = sz)
    (hown : w'.ownsRow m.w.heap.size e sz v xs.length flat) (hB : Below m.w.heap.size m.w w') (hc : ∀ (ok : Nat → Prop), ∀ (i : Nat) x (j : Nat) y u, xs[i]? = some x → x[j]? = some y → flat[i * sz + j]? = some u → RD w' ok y u) :
    ∃ m', m'.w = w' ∧ Grow m m' ∧ (∀ l i, m'.ρ (l + 1) i = m.ρ (l + 1) i) ∧ (∀ j u k, m'.ρ 0 j = some u → blkOf u = some k → m.w.heap.size ≤ k) ∧ Inv m' [.row e sz xs] H ∧ m'.ρ 0 0 = some v := by
  have hown0 : w'.ownsRow 0 e sz v xs.length flat := by
    obtain ⟨a, b⟩ := hown
    refine ⟨a, ?_⟩
    rcases b with b | ⟨g, cap, cur, b1, _, b2⟩
    · exact .inl b
    · exact .inr ⟨g, cap, cur, b1, Nat.zero_le _, b2⟩
  have hblk : ∀ k, blkOf v = some k → m.w.heap.size ≤ k ∧ k < w'.heap.size := fun k hk => by
    rcases hown.2 with ⟨b, _⟩ | ⟨g, cap, cur, b1, b2, b3, _⟩
    · rw [b] at hk; cases hk
    · rw [b1] at hk; cases hk; exact ⟨b2, (Array.getElem?_eq_some_iff.1 b3).1⟩
  let m' : M := ⟨w', fun l i => match l with | 0 => if i = 0 then some v else none | l + 1 => m.ρ (l + 1) i, fun k => m.U k ∨ blkOf v = some k⟩
  have h00 : m'.ρ 0 0 = some v := rfl
  have hup : ∀ l i, m'.ρ (l + 1) i = m.ρ (l + 1) i := fun _ _ => rfl
  have hz : ∀ i u, m'.ρ 0 i = some u → i = 0 ∧ u = v := fun i u h => by
    change (if i = 0 then some v else none) = some u at h
    split at h
    · cases h; exact ⟨by assumption, rfl⟩
    · cases h
  have hG : Grow m m' := by
    refine ⟨hB.os, hB.tape, hB.output, hB.size, fun k hk => hB.block k hk, fun l i u hu => ?_, fun k hk => ⟨fun h => ?_, .inl⟩⟩
    · cases l with
      | zero => rw [hfree i] at hu; cases hu
      | succ l => exact hu
    · rcases h with h | h
      · exact h
      · have := (hblk k h).1; omega
  have get : ∀ l i b, getB [.row e sz xs] H l i = some b → (l = 0 ∧ i = 0 ∧ b = .row e sz xs) ∨ (∃ l', l = l' + 1 ∧ getB [] H l i = some b) := by
    intro l i b hb
    cases l with
    | zero =>
      cases i with
      | zero => simp [getB] at hb; exact .inl ⟨rfl, rfl, hb.symm⟩
      | succ i => simp [getB] at hb
    | succ l => exact .inr ⟨l, rfl, hb⟩
  refine ⟨m', rfl, hG, hup, fun j u k hu hk => ?_, ⟨fun l i b hb => ?_, fun l i b l' i' b' u u' k h1 h2 h3 h4 h5 h6 h7 h8 => ?_, fun l i b u k h1 h2 h3 h4 => ?_, fun k hk => ?_⟩, h00⟩
  · obtain ⟨rfl, rfl⟩ := hz j u hu; exact (hblk k hk).1
  · rcases get l i b hb with ⟨rfl, rfl, rfl⟩ | ⟨l', rfl, hb'⟩
    · intro u hu
      rw [h00] at hu; cases hu
      exact ⟨h0, hxs, flat, hown0, hc _⟩
    · exact (hinv.blk _ i b hb').keep hG.keep (hup l' i) (fun u k hl hu hk => hG.heap k (hinv.lt k (hinv.own _ i b u k hb' hl hu hk)))
  · rcases get l i b h1 with ⟨rfl, rfl, rfl⟩ | ⟨a, rfl, hb⟩ <;> rcases get l' i' b' h3 with ⟨rfl, rfl, rfl⟩ | ⟨a', rfl, hb'⟩
    · exact ⟨rfl, rfl⟩
    · exfalso
      rw [h00] at h5; cases h5
      have := hinv.lt k (hinv.own _ i' b' u' k hb' h4 h6 h8)
      have := (hblk k h7).1; omega
    · exfalso
      rw [h00] at h6; cases h6
      have := hinv.lt k (hinv.own _ i b u k hb h2 h5 h7)
      have := (hblk k h8).1; omega
    · exact hinv.inj _ i b _ i' b' u u' k hb h2 hb' h4 h5 h6 h7 h8
  · rcases get l i b h1 with ⟨rfl, rfl, rfl⟩ | ⟨a, rfl, hb⟩
    · rw [h00] at h3; cases h3; exact .inr h4
    · exact .inl (hinv.own _ i b u k hb h2 h3 h4)
  · rcases hk with hk | hk
    · exact Nat.lt_of_lt_of_le (hinv.lt k hk) hB.size
    · exact (hblk k hk).2

/-- A row that was given, turned in place. -/
theorem turn_row {m : M} {H : List (List Blk)} {e sz : Nat} {xs xs' : List (List DV)} {v : Value} (hinv : Inv m [.row e sz xs] H) (hρ : m.ρ 0 0 = some v) (hfree : ∀ i, 1 ≤ i → m.ρ 0 i = none) {w' : World} {flat : List Value} (hxs : ∀ x ∈ xs', x.length = sz)
    (hos : w'.os = m.w.os) (htape : w'.tape = m.w.tape) (hout : w'.output = m.w.output) (hsize : m.w.heap.size ≤ w'.heap.size) (hheap : ∀ k, k < m.w.heap.size → blkOf v ≠ some k → w'.heap[k]? = m.w.heap[k]?)
    (hown : w'.ownsRow 0 e sz v xs'.length flat) (hc : ∀ (ok : Nat → Prop), ∀ (i : Nat) x (j : Nat) y u, xs'[i]? = some x → x[j]? = some y → flat[i * sz + j]? = some u → RD w' ok y u) :
    Since (M0.of m [.row e sz xs]) ⟨w', m.ρ, m.U⟩ [.row e sz xs'] ∧ Inv ⟨w', m.ρ, m.U⟩ [.row e sz xs'] H := by
  obtain ⟨h0, _⟩ := hinv.blk 0 0 _ rfl v hρ
  have hgU : ∀ k, blkOf v = some k → m.U k := fun k hk => hinv.own 0 0 _ v k rfl rfl hρ hk
  have mine : ∀ k, blkOf v = some k → Mine m [.row e sz xs] k := fun k hk => ⟨0, _, v, rfl, rfl, hρ, hk⟩
  have hK : Keep m ⟨w', m.ρ, m.U⟩ := ⟨fun _ _ _ h => h, hsize, fun k hk => ⟨hk.2, hheap k hk.1 (fun h => hk.2 (hgU k h))⟩⟩
  have get : ∀ l i b, getB [.row e sz xs'] H l i = some b → (l = 0 ∧ i = 0 ∧ b = .row e sz xs') ∨ (∃ l', l = l' + 1 ∧ getB [.row e sz xs] H l i = some b) := by
    intro l i b hb
    cases l with
    | zero =>
      cases i with
      | zero => simp [getB] at hb; exact .inl ⟨rfl, rfl, hb.symm⟩
      | succ i => simp [getB] at hb
    | succ l => exact .inr ⟨l, rfl, hb⟩
  have old : ∀ l i b, getB [.row e sz xs'] H l i = some b → b.live = true → ∃ b', getB [.row e sz xs] H l i = some b' ∧ b'.live = true := by
    intro l i b hb hl
    rcases get l i b hb with ⟨rfl, rfl, rfl⟩ | ⟨l', rfl, hb'⟩
    · exact ⟨_, rfl, rfl⟩
    · exact ⟨b, hb', hl⟩
  refine ⟨⟨hos, htape, hout, hsize, fun k hk hn _ => hheap k hk (fun h => hn (mine k h)), fun _ _ => rfl, fun _ _ => Iff.rfl, fun k ⟨j, _, u, _, _, hu, hk⟩ => .inr ?_⟩, ⟨fun l i b hb => ?_, fun l i b l' i' b' u u' k h1 h2 h3 h4 h5 h6 h7 h8 => ?_, fun l i b u k h1 h2 h3 h4 => ?_, fun k hk => Nat.lt_of_lt_of_le (hinv.lt k hk) hsize⟩⟩
  · cases j with
    | zero =>
      change m.ρ 0 0 = some u at hu
      rw [hρ] at hu; cases hu; exact mine k hk
    | succ j =>
      change m.ρ 0 (j + 1) = some u at hu
      rw [hfree _ (by omega)] at hu; cases hu
  · rcases get l i b hb with ⟨rfl, rfl, rfl⟩ | ⟨l', rfl, hb'⟩
    · intro u hu
      change m.ρ 0 0 = some u at hu
      rw [hρ] at hu; cases hu
      exact ⟨h0, hxs, flat, hown, hc _⟩
    · refine (hinv.blk _ i b hb').keep hK rfl (fun u k hl hu hk => hheap k (hinv.lt k (hinv.own _ i b u k hb' hl hu hk)) (fun h => ?_))
      have := (hinv.inj (l' + 1) i b 0 0 _ u v k hb' hl rfl rfl hu hρ hk h).1
      cases this
  · obtain ⟨c, c1, c2⟩ := old l i b h1 h2
    obtain ⟨c', d1, d2⟩ := old l' i' b' h3 h4
    exact hinv.inj l i c l' i' c' u u' k c1 c2 d1 d2 h5 h6 h7 h8
  · obtain ⟨c, c1, c2⟩ := old l i b h1 h2
    exact hinv.own l i c u k c1 c2 h3 h4

/-! ### rows of whole numbers -/
def rowI (l : List Int) : List (List DV) := l.map fun x => [.int .i64 x]
theorem rowI_len (l : List Int) : (rowI l).length = l.length := by simp [rowI]
theorem rowI_one (l : List Int) : ∀ x ∈ rowI l, x.length = 1 := fun x hx => by simp only [rowI, List.mem_map] at hx; obtain ⟨_, _, rfl⟩ := hx; rfl
theorem rowI_rd (l : List Int) (w : World) (ok : Nat → Prop) (i : Nat) (x : List DV) (j : Nat) (y : DV) (u : Value) (hx : (rowI l)[i]? = some x) (hy : x[j]? = some y) (hu : (l.map (Value.int .i64))[i * 1 + j]? = some u) : RD w ok y u := by
  unfold rowI at hx
  rw [List.getElem?_map] at hx
  obtain ⟨n, hn, rfl⟩ := Option.map_eq_some_iff.1 hx
  cases j with
  | succ j => simp at hy
  | zero =>
    simp at hy
    subst hy
    rw [Nat.mul_one, Nat.add_zero, List.getElem?_map, hn] at hu
    cases hu; exact .int _ _
theorem rowI_cells {w : World} {v : Value} {e : Nat} {flat : List Value} {l : List Int} (ho : w.ownsRow 0 e 1 v (rowI l).length flat) (hrd : ∀ (i : Nat) x (j : Nat) y u, (rowI l)[i]? = some x → x[j]? = some y → flat[i * 1 + j]? = some u → ∃ ok : Nat → Prop, RD w ok y u) : flat = l.map (Value.int .i64) := by
  apply List.ext_getElem?
  intro i
  have hfl : flat.length = l.length := by rw [ho.1, rowI_len]; omega
  rcases Nat.lt_or_ge i l.length with h | h
  · have h1 : flat[i]? = some flat[i] := List.getElem?_eq_getElem (by omega)
    obtain ⟨ok, h2⟩ := hrd i [.int .i64 l[i]] 0 _ flat[i] (by simp [rowI, h]) rfl (by rw [Nat.mul_one, Nat.add_zero]; exact h1)
    rw [h1, List.getElem?_map, List.getElem?_eq_getElem h]
    generalize flat[i] = u at h2
    cases h2; rfl
  · rw [List.getElem?_eq_none (by omega), List.getElem?_eq_none (by simpa using h)]
end Go.Proofs.Ve

/- Clone, Sort, Compact: contracts off the shelf. -/
set_option maxRecDepth 100000
set_option linter.all false
namespace Go.Proofs.Ve
open Go Go.RowKit
def rowB (b : List UInt8) : List (List DV) := b.map fun x => [.int .u8 x.toNat]
theorem rd_bytes {w : World} {ok : Nat → Prop} {b : List UInt8} {v : Value} (h : RD w ok (encB b) v) : ∃ A n c, v = .slice A n c ∧ n = b.length ∧ (0 < n → ∃ ad, A = some ad ∧ ∀ i, i < n → w.cell? (ad.add i) = some (.int .u8 ((b.map fun x => (x.toNat : Int)).getD i 0))) := by
  unfold encB at h
  cases h with
  | sl sz _ A n c ad u hn hc hm hA hs hcell hr =>
    refine ⟨A, n, c, rfl, by simpa using hn.symm, fun hp => ⟨ad, hA hp, fun i hi => ?_⟩⟩
    have hb : i < b.length := by simp at hn; omega
    have h1 : (b.map fun x => [DV.int .u8 (x.toNat : Int)])[i]? = some [.int .u8 (b[i].toNat : Int)] := by simp [hb]
    have hsz : sz = 1 := by
      have := hs _ (List.mem_of_getElem? h1)
      simpa using this.symm
    subst hsz
    have h2 := (hcell i _ 0 _ h1 rfl).2
    have h3 := hr i _ 0 _ h1 rfl
    rw [Nat.mul_one, Nat.add_zero] at h2 h3
    rw [h2]
    generalize u i = q at h3
    cases h3
    simp [hb]
theorem c103r (b : List UInt8) (hb : b.length ≤ 140737488355328) (H : List (List Blk)) : CallEq X H 103 [.d (encB b)] (.row 0 0 b.length) [⟨5, 1, rowB b⟩] := by
  unfold CallEq
  intro m vs hinv hfree hlen hargs
  obtain ⟨v, rfl⟩ : ∃ v, vs = #[v] := by
    match vs, hlen with
    | ⟨[v]⟩, _ => exact ⟨v, rfl⟩
  have hv := hargs 0 _ v rfl rfl
  cases hv with
  | d _ _ hv =>
    obtain ⟨A, n, c, rfl, hn, hcell⟩ := rd_bytes hv
    have fin : ∀ (w' : World) (v' : Value), w'.ownsRow m.w.heap.size 5 1 v' n ((b.map fun x => (x.toNat : Int)).map (Value.int .u8)) → Below m.w.heap.size m.w w' →
        ∃ v m', Ending.returned v' = .returned v ∧ m'.w = w' ∧ Grow m m' ∧ (∀ l i, m'.ρ (l + 1) i = m.ρ (l + 1) i) ∧ (∀ j u k, m'.ρ 0 j = some u → blkOf u = some k → m.w.heap.size ≤ k) ∧ Inv m' ([⟨5, 1, rowB b⟩].map RowB.blk) H ∧ RP m' (.row 0 0 b.length) v := by
      intro w' v' hown hB
      have hl : (rowB b).length = n := by simp [rowB, hn]
      obtain ⟨m', h1, h2, h3, h4, h5, h6⟩ := new_row (xs := rowB b) hinv hfree (by decide) (fun x hx => by simp only [rowB, List.mem_map] at hx; obtain ⟨_, _, rfl⟩ := hx; rfl) (hl ▸ hown) hB (fun ok i x j y u hx hy hu => by
        unfold rowB at hx
        rw [List.getElem?_map] at hx
        obtain ⟨q, hq, rfl⟩ := Option.map_eq_some_iff.1 hx
        cases j with
        | succ j => simp at hy
        | zero =>
          simp at hy; subst hy
          rw [Nat.mul_one, Nat.add_zero, List.getElem?_map, List.getElem?_map, hq] at hu
          cases hu; exact .int _ _)
      refine ⟨v', m', rfl, h1, h2, h3, h4, h5, ?_⟩
      rcases hown.2 with ⟨a, a0⟩ | ⟨g, cap, cur, a, _, _, a1, _⟩
      · subst a
        rw [← hn, a0]
        exact .row 0 0 0 0 0 none h6 (Nat.le_refl _) (Nat.le_refl _)
      · subst a
        exact hn ▸ .row 0 0 n n cap (some ⟨g, 0, none⟩) h6 (Nat.le_refl _) a1
    cases A with
    | none =>
      have h0 : n = 0 := by
        rcases Nat.eq_zero_or_pos n with h | h
        · exact h
        · obtain ⟨ad, h1, _⟩ := hcell h; cases h1
      refine (Try.bytes_Clone_nil n c m.w).mono ?_
      rintro e w' ⟨rfl, rfl⟩
      refine fin _ _ ⟨?_, .inl ⟨rfl, h0⟩⟩ (Below.refl _ _)
      simp [hn]
    | some a =>
      refine (Try.bytes_Clone_at a n c (b.map fun x => (x.toNat : Int)) m.w (by simp [hn]) (by omega) (fun i hi => ?_)).mono ?_
      · obtain ⟨ad, h1, h2⟩ := hcell (by omega)
        cases h1; exact h2 i hi
      · rintro e w' ⟨v', rfl, hown, _, hB⟩
        exact fin w' v' hown hB
theorem c103 (b : List UInt8) (hb : b.length ≤ 140737488355328) (H : List (List Blk)) : CallEq X H 103 [.d (encB b)] (.d (encB b)) [] :=
  (c103r b hb H).freeze 1 (by
    change PV.d (.sl ((rowB b).take b.length)) = _
    rw [List.take_of_length_le (by simp [rowB])]; rfl)

/-! ### in place -/
def sortI (l : List Int) : List Int := l.mergeSort fun x y => decide (x ≤ y)
theorem sortI_len (l : List Int) : (sortI l).length = l.length := List.length_mergeSort l
theorem c64 (l : List Int) (hl : l.length < 1000000) (H : List (List Blk)) : CallEqG X H 64 [⟨3, 1, rowI l⟩] [.row 0 0 l.length] [some ⟨3, 1, rowI (sortI l)⟩] (.tuple []) [] := by
  unfold CallEqG
  refine ⟨rfl, fun m vs hinv hfree hlen hargs => ?_⟩
  obtain ⟨v, rfl⟩ : ∃ v, vs = #[v] := by
    match vs, hlen with
    | ⟨[v]⟩, _ => exact ⟨v, rfl⟩
  have hv := hargs 0 _ v rfl rfl
  cases hv with
  | row _ _ _ Nn c A hρ hn hc =>
    have hb := hinv.blk 0 0 _ rfl _ hρ
    obtain ⟨h0, _, flat, hown, hrd⟩ := hb
    change m.w.ownsRow 0 3 1 (.slice A Nn c) (rowI l).length flat at hown
    change ∀ (i : Nat) x (j : Nat) y u, (rowI l)[i]? = some x → x[j]? = some y → flat[i * 1 + j]? = some u → RD m.w m.ok y u at hrd
    have hflat := rowI_cells hown (fun i x j y u hx hy hu => ⟨_, hrd i x j y u hx hy hu⟩)
    subst hflat
    have fin : ∀ w', w'.os = m.w.os → w'.tape = m.w.tape → w'.output = m.w.output → m.w.heap.size ≤ w'.heap.size → (∀ k, k < m.w.heap.size → blkOf (.slice A Nn c) ≠ some k → w'.heap[k]? = m.w.heap[k]?) → w'.ownsRow 0 3 1 (.slice A Nn c) (rowI (sortI l)).length ((sortI l).map (Value.int .i64)) →
        ∃ v m', Ending.returned (.tuple #[]) = .returned v ∧ m'.w = w' ∧ Since (M0.of m (([⟨3, 1, rowI l⟩] : List RowB).map RowB.blk)) m' (([] : List RowB).map RowB.blk ++ [some ⟨3, 1, rowI (sortI l)⟩].map gblk) ∧ (∀ i, i < 1 → m'.ρ 0 (0 + i) = m.ρ 0 i) ∧ Inv m' (([] : List RowB).map RowB.blk ++ [some ⟨3, 1, rowI (sortI l)⟩].map gblk) H ∧ RP m' (.tuple []) v := by
      intro w' h1 h2 h3 h4 h5 h6
      obtain ⟨a, b⟩ := turn_row (xs' := rowI (sortI l)) hinv hρ hfree (rowI_one _) h1 h2 h3 h4 h5 h6 (fun ok i x j y u hx hy hu => rowI_rd _ _ _ _ _ _ _ _ hx hy hu)
      exact ⟨_, _, rfl, rfl, a, fun i _ => by rw [Nat.zero_add], b, .tuple [] #[] rfl (fun j p v h => by simp at h)⟩
    rcases hown.2 with ⟨h1, h2⟩ | ⟨g, cap, cur, h1, _, h3, h4, h5, h6, h7⟩
    · cases h1
      have hl0 : l.length = 0 := by rw [← rowI_len l]; exact h2
      obtain rfl : l = [] := List.eq_nil_of_length_eq_zero hl0
      refine (Try.slices_Sort_int_none none 0 m.w).mono ?_
      rintro e w' ⟨rfl, rfl⟩
      exact fin _ rfl rfl rfl (Nat.le_refl _) (fun _ _ _ => rfl) (by rw [show sortI [] = [] from List.eq_nil_of_length_eq_zero (sortI_len [])]; exact hown)
    · simp only [Value.slice.injEq] at h1
      obtain ⟨rfl, rfl, rfl⟩ := h1
      have hg : g < m.w.heap.size := (Array.getElem?_eq_some_iff.1 h3).1
      rw [rowI_len] at h4 h7
      refine (Try.slices_Sort_int g 0 c l m.w (holds_of_blockI h3 (by simpa using h7)) hg (by omega)).mono ?_
      rintro e w' ⟨rfl, n, os, rfl⟩
      have hgr := grownBy_sortedI (w := m.w) (g := g) (n := n) (os := os) (sortI l).toArray
      refine fin _ hgr.os hgr.tape hgr.output hgr.size (fun k hk hne => hgr.block k hk (fun e => hne (by cases e; rfl))) ?_
      have e1 : (rowI (sortI l)).length = l.length := (rowI_len _).trans (sortI_len l)
      rw [e1, rowI_len l]
      exact ownsRow_sortedI (w := m.w) (base := 0) (cap := c) (n := n) (e := 3) (os := os) (ss := l) (ts := sortI l) (sortI_len l) (Nat.zero_le _) h3 h4 h5 h6
def compI (l : List Int) : List Int := Lib.compact l
def compZ (l : List Int) : List Int := compI l ++ List.replicate (l.length - (compI l).length) 0
theorem compZ_len (l : List Int) : (compZ l).length = l.length := by
  have := Lib.compact_length_le l
  simp [compZ, compI]; omega
theorem c85 (l : List Int) (hl : l.length < 1000000) (H : List (List Blk)) : CallEqG X H 85 [⟨3, 1, rowI l⟩] [.row 0 0 l.length] [none] (.row 0 0 (compI l).length) [⟨3, 1, rowI (compZ l)⟩] := by
  unfold CallEqG
  refine ⟨rfl, fun m vs hinv hfree hlen hargs => ?_⟩
  obtain ⟨v, rfl⟩ : ∃ v, vs = #[v] := by
    match vs, hlen with
    | ⟨[v]⟩, _ => exact ⟨v, rfl⟩
  have hv := hargs 0 _ v rfl rfl
  cases hv with
  | row _ _ _ Nn c A hρ hn hc =>
    have hb := hinv.blk 0 0 _ rfl _ hρ
    obtain ⟨h0, _, flat, hown, hrd⟩ := hb
    change m.w.ownsRow 0 3 1 (.slice A Nn c) (rowI l).length flat at hown
    change ∀ (i : Nat) x (j : Nat) y u, (rowI l)[i]? = some x → x[j]? = some y → flat[i * 1 + j]? = some u → RD m.w m.ok y u at hrd
    have hflat := rowI_cells hown (fun i x j y u hx hy hu => ⟨_, hrd i x j y u hx hy hu⟩)
    subst hflat
    have hcl : (compI l).length ≤ l.length := Lib.compact_length_le l
    have fin : ∀ w', w'.os = m.w.os → w'.tape = m.w.tape → w'.output = m.w.output → m.w.heap.size ≤ w'.heap.size → (∀ k, k < m.w.heap.size → blkOf (.slice A Nn c) ≠ some k → w'.heap[k]? = m.w.heap[k]?) → w'.ownsRow 0 3 1 (.slice A Nn c) (rowI (compZ l)).length ((compZ l).map (Value.int .i64)) → Nn = l.length →
        ∃ v m', Ending.returned (.slice A (compI l).length c) = .returned v ∧ m'.w = w' ∧ Since (M0.of m (([⟨3, 1, rowI l⟩] : List RowB).map RowB.blk)) m' (([⟨3, 1, rowI (compZ l)⟩] : List RowB).map RowB.blk ++ [(none : Option RowB)].map gblk) ∧ (∀ i, i < 1 → m'.ρ 0 (1 + i) = m.ρ 0 i) ∧ Inv m' (([⟨3, 1, rowI (compZ l)⟩] : List RowB).map RowB.blk ++ [(none : Option RowB)].map gblk) H ∧ RP m' (.row 0 0 (compI l).length) v := by
      intro w' h1 h2 h3 h4 h5 h6 h7
      obtain ⟨a, b⟩ := turn_row (xs' := rowI (compZ l)) hinv hρ hfree (rowI_one _) h1 h2 h3 h4 h5 h6 (fun ok i x j y u hx hy hu => rowI_rd _ _ _ _ _ _ _ _ hx hy hu)
      let m' : M := ⟨w', fun a i => match a with | 0 => if i ≤ 1 then m.ρ 0 0 else none | a + 1 => m.ρ (a + 1) i, m.U⟩
      have e0 : m'.ρ 0 0 = m.ρ 0 0 := rfl
      have e1 : m'.ρ 0 1 = m.ρ 0 0 := rfl
      have ez : ∀ i u, m'.ρ 0 i = some u → m.ρ 0 0 = some u := fun i u h => by
        change (if i ≤ 1 then m.ρ 0 0 else none) = some u at h
        split at h
        · exact h
        · cases h
      have hK : Keep ⟨w', m.ρ, m.U⟩ m' := by
        refine ⟨fun a i u hu => ?_, Nat.le_refl _, fun k hk => ⟨hk.2, rfl⟩⟩
        cases a with
        | succ a => exact hu
        | zero =>
          cases i with
          | zero => exact hu
          | succ i => change m.ρ 0 (i + 1) = some u at hu; rw [hfree _ (by simp)] at hu; cases hu
      have get : ∀ a i b, getB [.row 3 1 (rowI (compZ l)), .dead] H a i = some b → b.live = true → getB [.row 3 1 (rowI (compZ l))] H a i = some b ∧ m'.ρ a i = m.ρ a i := by
        intro a i b hb hl
        cases a with
        | succ a => exact ⟨hb, rfl⟩
        | zero =>
          match i, hb with
          | 0, hb => exact ⟨hb, rfl⟩
          | 1, hb => simp [getB] at hb; subst hb; cases hl
          | i + 2, hb => simp [getB] at hb
      refine ⟨_, m', rfl, rfl, ⟨a.os, a.tape, a.output, a.size, a.heap, a.up, a.U, fun k hM => ?_⟩, fun i hi => ?_, ⟨fun a i c hc => ?_, fun a i c a' i' c' u u' k q1 q2 q3 q4 q5 q6 q7 q8 => ?_, fun a i c u k q1 q2 q3 q4 => ?_, b.lt⟩, ?_⟩
      · obtain ⟨i, b', u, _, _, hu, hk⟩ := hM
        exact a.fresh k ⟨0, _, u, rfl, rfl, ez i u hu, hk⟩
      · obtain rfl : i = 0 := by omega
        exact e1
      · cases hlv : c.live with
        | false => cases c <;> first | (simp [Blk.live] at hlv; done) | trivial
        | true =>
          obtain ⟨g1, g2⟩ := get a i c hc hlv
          exact (b.blk a i c g1).keep hK g2 (fun _ _ _ _ _ => rfl)
      · obtain ⟨g1, g2⟩ := get a i c q1 q2
        obtain ⟨g3, g4⟩ := get a' i' c' q3 q4
        exact b.inj a i c a' i' c' u u' k g1 q2 g3 q4 (g2 ▸ q5) (g4 ▸ q6) q7 q8
      · obtain ⟨g1, g2⟩ := get a i c q1 q2
        exact b.own a i c u k g1 q2 (g2 ▸ q3) q4
      · exact .row 0 0 _ Nn c A (e0.trans hρ) (by omega) hc
    rcases hown.2 with ⟨h1, h2⟩ | ⟨g, cap, cur, h1, _, h3, h4, h5, h6, h7⟩
    · cases h1
      have hl0 : l.length = 0 := by rw [← rowI_len l]; exact h2
      obtain rfl : l = [] := List.eq_nil_of_length_eq_zero hl0
      refine (Try.slices_Compact_int_empty none 0 m.w).mono ?_
      rintro e w' ⟨rfl, rfl⟩
      exact fin _ rfl rfl rfl (Nat.le_refl _) (fun _ _ _ => rfl) hown rfl
    · simp only [Value.slice.injEq] at h1
      obtain ⟨rfl, rfl, rfl⟩ := h1
      have hg : g < m.w.heap.size := (Array.getElem?_eq_some_iff.1 h3).1
      rw [rowI_len] at h4 h7
      refine (Try.slices_Compact_int g 0 c l m.w (holds_of_blockI h3 (by simpa using h7)) (by omega) h4).mono ?_
      rintro e w' ⟨rfl, n, rfl⟩
      have hgr := grownBy_sortedI (w := m.w) (g := g) (n := n) (os := #[]) (compZ l).toArray
      have hw : Go.Sort.grow (Go.Sort.putRow (Value.int .i64) (Go.Sort.ahead m.w n) g 0 (compZ l).toArray) #[] = Go.Sort.putRow (Value.int .i64) (Go.Sort.ahead m.w n) g 0 (compZ l).toArray := Go.Sort.grow_empty _
      rw [hw] at hgr
      refine fin _ hgr.os hgr.tape hgr.output hgr.size (fun k hk hne => hgr.block k hk (fun e => hne (by cases e; rfl))) ?_ (rowI_len l)
      have e1 : (rowI (compZ l)).length = l.length := (rowI_len _).trans (compZ_len l)
      rw [e1, rowI_len l]
      have := ownsRow_sortedI (w := m.w) (base := 0) (cap := c) (n := n) (e := 3) (os := #[]) (ss := l) (ts := compZ l) (compZ_len l) (Nat.zero_le _) h3 h4 h5 h6
      rw [hw] at this
      exact this
end Go.Proofs.Ve

/- Concat of locks; who is ahead. -/
set_option maxRecDepth 100000
set_option linter.all false
namespace Go.Proofs.Ve
open Go
theorem take_snoc' {α : Type} {l : List α} {k : Nat} {x : α} (h : l[k]? = some x) : l.take (k + 1) = l.take k ++ [x] := by
  rw [List.take_add_one, h]; rfl
theorem flat_snoc {α : Type} {ls : List (List α)} {k : Nat} {l : List α} (h : ls[k]? = some l) : (ls.take (k + 1)).flatten = (ls.take k).flatten ++ l := by
  rw [take_snoc' h]; simp
theorem flat_le {α : Type} (ls : List (List α)) (k : Nat) : (ls.take k).flatten.length ≤ ls.flatten.length := by
  have h : ls.flatten = (ls.take k).flatten ++ (ls.drop k).flatten := by rw [← List.flatten_append, List.take_append_drop]
  rw [h, List.length_append]; omega
def encLL (ls : List (List Lock)) : DV := .sl (ls.map fun l => [encLocks l])
theorem c84 (ls : List (List Lock)) (hn : ls.length < 1000000) (ht : ls.flatten.length < 1000000) (H : List (List Blk)) : CallEq X H 84 [.d (encLL ls)] (.row 0 0 ls.flatten.length) [⟨29, 7, ls.flatten.map cLock⟩] := by
  refine callEq_of_body X_ok rfl Try.func84 rfl ?_
  conv => whnf
  refine loopV_of (fun k : Nat => ⟨[.d (encLL ls), .any, .nils, .d (.int .i64 ((ls.take k).flatten.length : Nat)), .any, .any, .any, .any, .any, .d (encLL ls), .d (.int .i64 (ls.map fun l => [encLocks l]).length), .d (.int .i64 k), .any, .any, .any, .any, .any, .any, .any, .any, .any, .any, .any, .any, .any, .any, .any, .any, .any, .any, .any, .any, .any, .any, .any, .any], []⟩)
    (fun k => k ≤ ls.length) (fun k => ls.length - k) 0 [] (Nat.zero_le _) ?_ ?_
  · refine And.intro rfl (And.intro ?_ ?_)
    all_goals repeat' (first | exact True.intro | exact rfl | refine And.intro ?_ ?_)
  · intro k hk
    conv => whnf
    refine And.intro (fun h_ => ?_) (fun h_ => ?_)
    · conv => whnf
      have hk' : k < ls.length := by simpa using h_
      obtain ⟨l, hl⟩ : ∃ l, ls[k]? = some l := ⟨_, List.getElem?_eq_getElem hk'⟩
      have hf := flat_snoc hl
      have hf' : (ls.take (k + 1)).flatten.length = (ls.take k).flatten.length + l.length := by rw [hf]; simp
      have hle := flat_le ls (k + 1)
      refine ⟨by omega, [encLocks l], by simp [hl], rfl, ?_⟩
      conv => whnf
      intro z hz
      conv => whnf
      rw [show ((l.map cLock).length : Int) = (l.length : Int) by simp, wrap_small (by omega) (by omega)] at hz
      subst hz
      refine And.intro (fun h1 => ?_) (fun h1 => ?_)
      · simp at h1; omega
      conv => whnf
      intro z hz
      conv => whnf
      rw [wrap_small (by omega) (by omega)] at hz
      subst hz
      refine ⟨k + 1, [], by omega, by omega, And.intro rfl (And.intro ?_ ?_)⟩
      all_goals repeat' (first | exact True.intro | exact rfl | refine And.intro ?_ ?_)
      show DV.int .i64 _ = DV.int .i64 _
      rw [hf']; rfl
    · conv => whnf
      have hk' : k = ls.length := by simp at h_; omega
      subst hk'
      rw [List.take_length]
      refine ⟨by omega, ?_⟩
      conv => whnf
      refine ⟨by (first | omega | (dsimp only; omega) | (simp; done) | (simp; omega)), by (first | omega | (dsimp only; omega) | (simp; done) | (simp; omega)), fun h0 => ?_, fun h0 => ?_⟩
      all_goals
        conv => whnf
        refine loopV_of (fun k : Nat => ⟨[.d (encLL ls), .any, .nils, .any, .any, .any, .row 0 0 (ls.take k).flatten.length, .any, .any, .any, .any, .any, .any, .any, .any, .any, .any, .any, .any, .any, .any, .any, .any, .any, .any, .d (encLL ls), .d (.int .i64 (ls.map fun l => [encLocks l]).length), .d (.int .i64 k), .any, .any, .any, .any, .any, .any, .any, .any], [.row 29 7 ((ls.take k).flatten.map cLock)]⟩)
          (fun k => k ≤ ls.length) (fun k => ls.length - k) 0 [0] (Nat.zero_le _) ?_ ?_
        · refine And.intro rfl (And.intro ?_ ?_)
          all_goals repeat' (first | exact True.intro | exact rfl | refine And.intro ?_ ?_)
        · intro k hk
          conv => whnf
          refine And.intro (fun h_ => ?_) (fun h_ => ?_)
          · conv => whnf
            have hk' : k < ls.length := by simpa using h_
            obtain ⟨l, hl⟩ : ∃ l, ls[k]? = some l := ⟨_, List.getElem?_eq_getElem hk'⟩
            have hf := flat_snoc hl
            have hf' : (ls.take (k + 1)).flatten.length = (ls.take k).flatten.length + l.length := by rw [hf]; simp
            have hle := flat_le ls (k + 1)
            refine ⟨by omega, [encLocks l], by simp [hl], rfl, ?_⟩
            conv => whnf
            refine ⟨fun y hy => ?_, ?_⟩
            · simp only [List.mem_map] at hy; obtain ⟨_, _, rfl⟩ := hy; rfl
            conv => whnf
            refine ⟨(List.length_map _).symm, by rw [List.length_map]; (first | omega | (dsimp only; omega) | (simp; done) | (simp; omega)), ?_⟩
            conv => whnf
            intro z hz
            conv => whnf
            rw [wrap_small (by omega) (by omega)] at hz
            subst hz
            refine ⟨k + 1, [1], by omega, by omega, And.intro rfl (And.intro ?_ ?_)⟩
            all_goals (repeat' (first | exact True.intro | exact rfl | refine And.intro ?_ ?_))
            · show PV.row 0 1 _ = PV.row 0 1 _
              rw [hf', List.length_map]
            · rw [hf, List.map_append]
          · conv => whnf
            have hk' : k = ls.length := by simp at h_; omega
            subst hk'
            rw [List.take_length]
            exact ⟨[0], rfl, And.intro rfl rfl, And.intro (And.intro rfl (And.intro rfl rfl)) True.intro⟩
theorem c84f (a b : List Lock) (ha : a.length < 100000) (hb : b.length < 100000) (H : List (List Blk)) : CallEq X H 84 [.d (.sl [[encLocks a], [encLocks b]])] (.d (encLocks (a ++ b))) [] := by
  have h := (c84 [a, b] (by simp) (by simp; omega) H).freeze 1 (r' := .d (encLocks (a ++ b))) (by
    change PV.d (.sl (List.take _ (List.map cLock _))) = _
    rw [List.take_of_length_le (by simp)]
    simp [encLocks])
  exact h
/-! ### who is ahead -/
def aheadOf (x : Lock) (l : List Lock) : List Int := (l.filter fun y => lClash y x).map (·.owner)
theorem ahead_snoc {x y : Lock} {l : List Lock} {k : Nat} (h : l[k]? = some y) : aheadOf x (l.take (k + 1)) = aheadOf x (l.take k) ++ if lClash y x then [y.owner] else [] := by
  unfold aheadOf
  rw [take_snoc' h, List.filter_append, List.map_append]
  cases hc : lClash y x <;> simp [hc]
theorem ahead_len (x : Lock) (l : List Lock) : (aheadOf x l).length ≤ l.length := by
  unfold aheadOf; rw [List.length_map]; exact List.length_filter_le _ _
def lAhead (l : Locks) (x : Lock) (many : Nat) : List Int := compI (sortI (aheadOf x (l.held ++ l.queue.take many)))
theorem c45r (l : Locks) (x : Lock) (many : Nat) (hm : many ≤ l.queue.length) (h1 : l.held.length < 100000) (h2 : l.queue.length < 100000) (H : List (List Blk)) : CallEq X H 45 [pLocks l, pLock x, .d (.int .i64 many)] (.row 0 0 (lAhead l x many).length) [⟨3, 1, rowI (compZ (sortI (aheadOf x (l.held ++ l.queue.take many))))⟩] := by
  refine callEq_of_body X_ok rfl Try.func45 rfl ?_
  conv => whnf
  refine ⟨by omega, by simp; omega, ?_⟩
  conv => whnf
  have hc := fun H => c84f l.held (l.queue.take many) h1 (by simp; omega) H
  rw [show encLocks (l.queue.take many) = .sl (List.take (many : Int).toNat (l.queue.map cLock)) by rw [encLocks, List.map_take]; rfl] at hc
  refine ⟨_, _, hc _, True.intro, ?_⟩
  conv => whnf
  obtain ⟨L, hL⟩ : ∃ L, L = l.held ++ l.queue.take many := ⟨_, rfl⟩
  have hLl : L.length < 200000 := by rw [hL]; simp; omega
  rw [← hL]
  refine loopV_of (fun k : Nat => ⟨[.any, .any, .any, .ptr 0 0 0, .ptr 0 1 0, .any, .row 0 2 (aheadOf x (L.take k)).length, .any, .any, .any, .any, .any, .any, .any, .any, .any, .any, .any, .d (encLocks L), .d (.int .i64 (L.map cLock).length), .d (.int .i64 k), .any, .any, .any, .any, .any, .any, .any, .any, .any, .any, .any, .any, .any, .any, .any, .any], [.box [.d (encLocks l.held), .d (encLocks l.queue)], bLock x, .row 3 1 (rowI (aheadOf x (L.take k)))]⟩)
    (fun k => k ≤ L.length) (fun k => L.length - k) 0 [0, 1, 2] (Nat.zero_le _) ?_ ?_
  · refine And.intro rfl (And.intro ?_ ?_)
    all_goals (repeat' (first | exact True.intro | exact rfl | refine And.intro ?_ ?_))
  · intro k hk
    conv => whnf
    refine And.intro (fun h_ => ?_) (fun h_ => ?_)
    · conv => whnf
      have hk' : k < L.length := by simpa using h_
      obtain ⟨y, hy⟩ : ∃ y, L[k]? = some y := ⟨_, List.getElem?_eq_getElem hk'⟩
      have hs := ahead_snoc (x := x) hy
      have hle := ahead_len x (L.take k)
      have hle' : (L.take k).length ≤ k := List.length_take_le _ _
      refine ⟨by omega, cLock y, by simp [hy], rfl, ?_⟩
      conv => whnf
      refine ⟨_, _, c21 y x _, True.intro, ?_⟩
      conv => whnf
      refine And.intro (fun h1 => ?_) (fun h1 => ?_)
      · conv => whnf
        rw [h1, if_pos rfl] at hs
        have hs' : (aheadOf x (L.take (k + 1))).length = (aheadOf x (L.take k)).length + 1 := by rw [hs]; simp
        refine ⟨fun y hy => by simp at hy; subst hy; rfl, ?_⟩
        conv => whnf
        refine ⟨(rowI_len _).symm, by (first | omega | (dsimp only; omega) | (simp; done) | (simp; omega)), ?_⟩
        conv => whnf
        intro z hz
        conv => whnf
        rw [wrap_small (by omega) (by omega)] at hz
        subst hz
        refine ⟨k + 1, [0, 1, 4], by omega, by omega, And.intro rfl (And.intro ?_ ?_)⟩
        all_goals (repeat' (first | exact True.intro | exact rfl | refine And.intro ?_ ?_))
        · show PV.row 0 4 _ = PV.row 0 4 _
          rw [hs']; rfl
        · rw [hs]; simp [rowI]
      · conv => whnf
        rw [h1] at hs
        simp only [Bool.false_eq_true, if_false, List.append_nil] at hs
        intro z hz
        conv => whnf
        rw [wrap_small (by omega) (by omega)] at hz
        subst hz
        refine ⟨k + 1, [0, 1, 2], by omega, by omega, And.intro rfl (And.intro ?_ ?_)⟩
        all_goals (repeat' (first | exact True.intro | exact rfl | refine And.intro ?_ ?_))
        · show PV.row 0 2 _ = PV.row 0 2 _
          rw [hs]
        · rw [hs]
    · conv => whnf
      have hk' : k = L.length := by simp at h_; omega
      subst hk'
      rw [List.take_length]
      have hle := ahead_len x L
      refine ⟨_, _, _, c64 (aheadOf x L) (by omega) _, ?_⟩
      conv => whnf
      have c2 := fun H => c85 (sortI (aheadOf x L)) (by rw [sortI_len]; omega) H
      rw [sortI_len] at c2
      refine ⟨_, _, _, c2 _, ?_⟩
      conv => whnf
      have hr : lAhead l x many = compI (sortI (aheadOf x L)) := by rw [hL]; rfl
      rw [hr]
      exact ⟨[3], rfl, And.intro rfl rfl, And.intro (And.intro rfl (And.intro rfl rfl)) True.intro⟩
theorem encI_comp (s : List Int) : DV.sl ((rowI (compZ s)).take (compI s).length) = encI (compI s) := by
  unfold rowI compZ encI
  rw [List.map_append, List.take_append_of_le_length (by simp), List.take_of_length_le (by simp)]
theorem c45 (l : Locks) (x : Lock) (many : Nat) (hm : many ≤ l.queue.length) (h1 : l.held.length < 100000) (h2 : l.queue.length < 100000) (H : List (List Blk)) : CallEq X H 45 [pLocks l, pLock x, .d (.int .i64 many)] (.d (encI (lAhead l x many))) [] :=
  (c45r l x many hm h1 h2 H).freeze 1 (by
    change PV.d (.sl (List.take (lAhead l x many).length (rowI _))) = _
    unfold lAhead
    rw [encI_comp])
end Go.Proofs.Ve

/- Whether locks may be; who waits, and for whom. -/
set_option maxRecDepth 100000
set_option linter.all false
namespace Go.Proofs.Ve
open Go
def lQok (l : Locks) (y : Lock) (k : Nat) : Bool := place l.queue y.owner == (k : Int) && decide (((lAhead l y k).length : Int) > 0)
def lQ (l : Locks) : List Lock → Nat → Bool
  | [], _ => true
  | y :: ys, k => bif lQok l y k then lQ l ys (k + 1) else false
theorem lQ_step {l : Locks} {k : Nat} {y : Lock} (h : l.queue[k]? = some y) : lQ l (l.queue.drop k) k = bif lQok l y k then lQ l (l.queue.drop (k + 1)) (k + 1) else false := by
  have hk := (List.getElem?_eq_some_iff.1 h).1
  rw [List.drop_eq_getElem_cons hk, (List.getElem?_eq_some_iff.1 h).2, lQ]
def lCheck (l : Locks) : Bool :=
  !(decide ((l.held.length : Int) + l.queue.length > 40) || (l.held.any (fun x => !lMay x) || l.queue.any fun x => !lMay x)) && (lQ l l.queue 0 && (singleFrom [] l.held && !l.queue.any fun x => l.held.any (lWeak x)))
theorem c19 (l : Locks) (h1 : l.held.length < 100000) (h2 : l.queue.length < 100000) (H : List (List Blk)) : CallEq X H 19 [pLocks l] (.d (.bool (lCheck l))) [] := by
  refine callEq_of_body X_ok rfl Try.func19 rfl ?_
  conv => whnf
  intro z hz
  conv => whnf
  rw [wrap_small (by (first | omega | (dsimp only; omega) | (simp; done) | (simp; omega))) (by (first | omega | (dsimp only; omega) | (simp; done) | (simp; omega))), List.length_map, List.length_map] at hz
  subst hz
  have key : (decide ((l.held.length : Int) + l.queue.length > 40)) = false → l.held.any (fun x => !lMay x) = false → l.queue.any (fun x => !lMay x) = false → lCheck l = (lQ l l.queue 0 && (singleFrom [] l.held && !l.queue.any fun x => l.held.any (lWeak x))) := fun a b c => by
    unfold lCheck; rw [a, b, c]; rfl
  refine And.intro (fun e1 => ?_) (fun e1 => ?_) <;> (conv => whnf)
  · refine ⟨_, _, c51a l.held (by omega) _, True.intro, ?_⟩
    conv => whnf
    refine And.intro (fun e2 => ?_) (fun e2 => ?_) <;> (conv => whnf)
    · refine ⟨_, _, c51a l.queue (by omega) _, True.intro, ?_⟩
      conv => whnf
      refine And.intro (fun e3 => ?_) (fun e3 => ?_) <;> (conv => whnf)
      · refine ⟨[], rfl, ?_, True.intro⟩
        show DV.bool _ = .bool _
        unfold lCheck; rw [e1, e3]; simp
      · have hk := key (by simpa using e1) (by simpa using e2) (by simpa using e3)
        refine loopV_of (fun k : Nat => ⟨[.any, .ptr 0 0 0, .any, .any, .ptr 0 1 0, .func (.func 45) [.agg [.d (encLocks l.held), .d (encLocks l.queue)]] [], .any, .any, .any, .any, .any, .any, .any, .any, .any, .any, .any, .any, .any, .any, .any, .any, .any, .any, .any, .any, .any, .any, .any, .any, .any, .any, .any, .d (encLocks l.queue), .d (.int .i64 (l.queue.map cLock).length), .d (.int .i64 k), .any, .any, .any, .any, .any, .any, .any, .any, .any, .any, .any, .any, .any, .any, .any, .any, .any, .any, .any, .any, .any, .any, .any, .any, .any, .any, .any, .any, .any], [.box [.d (encLocks l.held), .d (encLocks l.queue)], .box [.d (encLocks l.held), .d (encLocks l.queue)]]⟩)
          (fun k => k ≤ l.queue.length ∧ lQ l l.queue 0 = lQ l (l.queue.drop k) k) (fun k => l.queue.length - k) 0 [0, 1] ⟨Nat.zero_le _, rfl⟩ ?_ ?_
        · refine And.intro rfl (And.intro ?_ ?_)
          all_goals (repeat' (first | exact True.intro | exact rfl | refine And.intro ?_ ?_))
        · rintro k ⟨hkl, hidx⟩
          conv => whnf
          refine And.intro (fun h_ => ?_) (fun h_ => ?_)
          · conv => whnf
            have hk' : k < l.queue.length := by simpa using h_
            obtain ⟨y, hy⟩ : ∃ y, l.queue[k]? = some y := ⟨_, List.getElem?_eq_getElem hk'⟩
            have hst := lQ_step hy
            have out : lQok l y k = false → DV.bool false = .bool (lCheck l) := fun h => by rw [hk, hidx, hst, h]; rfl
            have next : lQok l y k = true → lQ l l.queue 0 = lQ l (l.queue.drop (k + 1)) (k + 1) := fun h => by rw [hidx, hst, h]; rfl
            refine ⟨by omega, cLock y, by simp [hy], rfl, ?_⟩
            conv => whnf
            refine ⟨_, _, c44 l y.owner (by omega) _, True.intro, ?_⟩
            conv => whnf
            refine And.intro (fun q1 => ?_) (fun q1 => ?_) <;> (conv => whnf)
            · refine ⟨_, _, c45 l y k (by omega) h1 h2 _, True.intro, ?_⟩
              conv => whnf
              have e0 : (((lAhead l y k).map fun x => [DV.int .i64 x]).length : Int) = ((lAhead l y k).length : Int) := by simp
              refine And.intro (fun q2 => ?_) (fun q2 => ?_) <;> (conv => whnf)
              · intro z hz
                conv => whnf
                rw [wrap_small (by omega) (by omega)] at hz
                subst hz
                refine ⟨k + 1, [0, 1], ⟨by omega, next ?_⟩, by omega, And.intro rfl (And.intro ?_ ?_)⟩
                · unfold lQok; rw [q1, ← e0]; simpa using q2
                all_goals (repeat' (first | exact True.intro | exact rfl | refine And.intro ?_ ?_))
              · refine ⟨[], rfl, out ?_, True.intro⟩
                unfold lQok; rw [q1, ← e0]; simpa using q2
            · refine ⟨[], rfl, out ?_, True.intro⟩
              unfold lQok; rw [q1]; rfl
          · conv => whnf
            have hk' : k = l.queue.length := by simp at h_; omega
            have hq : lCheck l = (singleFrom [] l.held && !l.queue.any fun x => l.held.any (lWeak x)) := by rw [hk, hidx, hk', List.drop_length]; rfl
            refine ⟨_, _, c52 l (by omega) _, True.intro, ?_⟩
            conv => whnf
            refine And.intro (fun q1 => ?_) (fun q1 => ?_) <;> (conv => whnf)
            · refine ⟨_, _, c51c l l.queue (by omega) (by omega) _, True.intro, ?_⟩
              conv => whnf
              refine ⟨[], rfl, ?_, True.intro⟩
              show DV.bool _ = .bool _
              rw [hq, q1]; rfl
            · refine ⟨[], rfl, ?_, True.intro⟩
              show DV.bool false = .bool _
              rw [hq, q1]; rfl
    · refine ⟨[], rfl, ?_, True.intro⟩
      show DV.bool _ = .bool _
      unfold lCheck; rw [e1, e2]; simp
  · refine ⟨[], rfl, ?_, True.intro⟩
    show DV.bool _ = .bool _
    unfold lCheck; rw [e1]; simp
def lWaits (l : Locks) (o : Int) : Bool := lCheck l && decide (place l.queue o ≥ 0)
theorem c23 (l : Locks) (o : Int) (h1 : l.held.length < 100000) (h2 : l.queue.length < 100000) (H : List (List Blk)) : CallEq X H 23 [pLocks l, .d (.int .i64 o)] (.d (.bool (lWaits l o))) [] := by
  unfold lWaits
  refine callEq_of_body X_ok rfl Try.func23 rfl ?_
  conv => whnf
  repeat' (first
    | (refine And.intro (fun h_ => ?_) (fun h_ => ?_) <;> (conv => whnf))
    | (refine ⟨_, _, c19 l h1 h2 _, (by first | exact True.intro | exact And.intro rfl flat_nil), ?_⟩; conv => whnf)
    | (refine ⟨_, _, c44 l o (by omega) _, (by first | exact True.intro | exact And.intro rfl flat_nil), ?_⟩; conv => whnf)
    | (intro z_ hz_; conv => whnf)
    | (refine ⟨[], rfl, ?_, True.intro⟩; (conv => whnf); (first | done | (simp_all only [refP, Bool.not_true, Bool.not_false, Bool.true_and, Bool.false_and, Bool.and_true, Bool.and_false, Bool.true_or, Bool.false_or, Bool.or_true, Bool.or_false, Bool.not_not, Bool.not_eq_true', Bool.not_eq_false', if_true, if_false, Bool.false_eq_true, Bool.true_eq_false, List.length_map]; done)))
    | fail)
def lBlockers (l : Locks) (o : Int) : List Int := if lWaits l o then (match l.queue[(place l.queue o).toNat]? with | some y => lAhead l y (place l.queue o).toNat | none => []) else []
theorem place_at {l : List Lock} {o : Int} (h : place l o ≥ 0) : ∃ y, l[(place l o).toNat]? = some y ∧ y.owner = o := by
  unfold place at *
  have key : ∀ (l : List Lock) (k : Int), 0 ≤ k → idxOf (fun x : Lock => x.owner == o) l k ≥ 0 → k ≤ idxOf (fun x : Lock => x.owner == o) l k ∧ ∃ y, l[(idxOf (fun x : Lock => x.owner == o) l k - k).toNat]? = some y ∧ y.owner = o := by
    intro l
    induction l with
    | nil => intro k hk h; simp [idxOf] at h
    | cons x l ih =>
      intro k hk h
      cases hx : (x.owner == o) with
      | true => rw [idxOf, hx]; exact ⟨by simp, x, by simp, by simpa using hx⟩
      | false =>
        rw [idxOf, hx] at h ⊢
        obtain ⟨h1, y, h2, h3⟩ := ih (k + 1) (by omega) h
        refine ⟨by simp; omega, y, ?_, h3⟩
        simp only [cond_false]
        rw [show (idxOf (fun x : Lock => x.owner == o) l (k + 1) - k).toNat = (idxOf (fun x : Lock => x.owner == o) l (k + 1) - (k + 1)).toNat + 1 by omega]
        simpa using h2
  obtain ⟨_, y, h1, h2⟩ := key l 0 (by omega) h
  exact ⟨y, by simpa using h1, h2⟩
theorem c17 (l : Locks) (o : Int) (h1 : l.held.length < 100000) (h2 : l.queue.length < 100000) (H : List (List Blk)) : CallEq X H 17 [pLocks l, .d (.int .i64 o)] (.d (encI (lBlockers l o))) [] := by
  refine callEq_of_body X_ok rfl Try.func17 rfl ?_
  conv => whnf
  refine ⟨_, _, c23 l o h1 h2 _, True.intro, ?_⟩
  conv => whnf
  refine And.intro (fun q1 => ?_) (fun q1 => ?_) <;> (conv => whnf)
  · refine ⟨[], rfl, ?_, True.intro⟩
    have q1 : lWaits l o = false := by simpa using q1
    show DV.sl [] = encI (lBlockers l o)
    unfold lBlockers; rw [q1]; rfl
  · have q1 : lWaits l o = true := by simpa using q1
    have hp : place l.queue o ≥ 0 := by unfold lWaits at q1; simp at q1; exact q1.2
    obtain ⟨y, hy, ho⟩ := place_at hp
    refine ⟨_, _, c44 l o (by omega) _, True.intro, ?_⟩
    conv => whnf
    refine ⟨hp, cLock y, by simp [hy], rfl, ?_⟩
    conv => whnf
    have hlt := (List.getElem?_eq_some_iff.1 hy).1
    have hc := fun H => c45 l y (place l.queue o).toNat (by omega) h1 h2 H
    rw [show (((place l.queue o).toNat : Nat) : Int) = place l.queue o by omega] at hc
    refine ⟨_, _, hc _, True.intro, ?_⟩
    conv => whnf
    refine ⟨[], rfl, ?_, True.intro⟩
    show encI _ = encI (lBlockers l o)
    unfold lBlockers; rw [q1, if_pos rfl, hy]
end Go.Proofs.Ve

/- The document's answer: by whom one is held up; whether locks may be. -/
set_option maxRecDepth 100000
set_option linter.all false
namespace Go.Proofs.Ve
open Go
def ownOk (y : Lock) : Prop := y.owner = 0 ∨ y.owner = 1 ∨ y.owner = 2 ∨ y.owner = 3
theorem may_own {y : Lock} (h : rLMay y = true) : ownOk y := by
  unfold ownOk
  unfold rLMay at h
  cases h1 : (decide (y.owner < 0) || decide (y.owner > 3)) with
  | true => rw [h1] at h; simp at h
  | false => simp at h1; omega
def anyB (x : Lock) (ys : List Lock) (o : Int) : Bool := ys.any fun y => rClash y x && y.owner == o
theorem anyB_snoc {x y : Lock} {l : List Lock} {k : Nat} (h : l[k]? = some y) (pre : List Lock) (o : Int) : anyB x (pre ++ l.take (k + 1)) o = (anyB x (pre ++ l.take k) o || (rClash y x && y.owner == o)) := by
  unfold anyB
  rw [take_snoc' h, ← List.append_assoc, List.any_append]
  simp
def pB (x : Lock) (ys : List Lock) : PV := .agg [.d (.bool (anyB x ys 0)), .d (.bool (anyB x ys 1)), .d (.bool (anyB x ys 2)), .d (.bool (anyB x ys 3))]
theorem idx4 {K : Nat → Prop} {n : Int} (h : n = 0 ∨ n = 1 ∨ n = 2 ∨ n = 3) (h0 : n = 0 → K 0) (h1 : n = 1 → K 1) (h2 : n = 2 → K 2) (h3 : n = 3 → K 3) : 0 ≤ n ∧ n < 4 ∧ ∃ k : Nat, n = k ∧ K k := by
  rcases h with h | h | h | h
  · exact ⟨by omega, by omega, 0, h, h0 h⟩
  · exact ⟨by omega, by omega, 1, h, h1 h⟩
  · exact ⟨by omega, by omega, 2, h, h2 h⟩
  · exact ⟨by omega, by omega, 3, h, h3 h⟩
theorem c48 (l : Locks) (x : Lock) (at_ : Nat) (hx : l.queue[at_]? = some x) (h1 : l.held.length < 100000) (h2 : l.queue.length < 100000) (o1 : ∀ y ∈ l.held, ownOk y) (o2 : ∀ y ∈ l.queue, ownOk y) (H : List (List Blk)) :
    CallEq X H 48 [pLocks l, .d (.int .i64 at_)] (pB x (l.held ++ l.queue.take at_)) [] := by
  have hat := (List.getElem?_eq_some_iff.1 hx).1
  refine callEq_of_body X_ok rfl Try.func48 rfl ?_
  conv => whnf
  refine loopV_of (fun k : Nat => ⟨[.any, .d (.int .i64 at_), .ptr 0 0 0, .any, .ptr 0 1 0, .ptr 0 2 0, .d (.int .i64 k), .any, .any, .any, .any, .any, .any, .any, .any, .any, .any, .any, .any, .any, .any, .any, .any, .any, .any, .any, .any, .any, .any, .any, .any, .any, .any, .any, .any, .any, .any, .any, .any, .any, .any, .any, .any, .any, .any, .any, .any, .any, .any, .any, .any, .any, .any, .any, .any, .any, .any, .any, .any, .any, .any, .any], [.box [.d (encLocks l.held), .d (encLocks l.queue)], .box [.kb false, .kb false, .kb false, .kb false], .box [.d (.bool (anyB x ([] ++ l.held.take k) 0)), .d (.bool (anyB x ([] ++ l.held.take k) 1)), .d (.bool (anyB x ([] ++ l.held.take k) 2)), .d (.bool (anyB x ([] ++ l.held.take k) 3))]]⟩)
    (fun k => k ≤ l.held.length) (fun k => l.held.length - k) 0 [0, 1, 2] (Nat.zero_le _) ?_ ?_
  · refine And.intro rfl (And.intro ?_ ?_)
    all_goals (repeat' (first | exact True.intro | exact rfl | refine And.intro ?_ ?_))
    skip
  · intro k hkl
    conv => whnf
    refine And.intro (fun h_ => ?_) (fun h_ => ?_)
    · conv => whnf
      have hk' : k < l.held.length := by simpa using h_
      obtain ⟨y, hy⟩ : ∃ y, l.held[k]? = some y := ⟨_, List.getElem?_eq_getElem (by omega)⟩
      have hs := fun o => anyB_snoc (x := x) hy [] o
      refine ⟨by omega, cLock y, by simp [hy], rfl, ?_⟩
      conv => whnf
      refine ⟨by omega, cLock x, by simp [hx], rfl, ?_⟩
      conv => whnf
      refine ⟨_, _, c22 y x _, True.intro, ?_⟩
      conv => whnf
      refine And.intro (fun q1 => ?_) (fun q1 => ?_) <;> (conv => whnf)
      · simp only [q1, Bool.true_and] at hs
        refine ⟨by omega, cLock y, by simp [hy], rfl, ?_⟩
        conv => whnf
        refine idx4 (o1 y (List.mem_of_getElem? hy)) (fun ho => ?_) (fun ho => ?_) (fun ho => ?_) (fun ho => ?_)
        all_goals
          simp only [ho] at hs
          conv => whnf
          intro z hz
          conv => whnf
          rw [wrap_small (by omega) (by omega)] at hz
          subst hz
          refine ⟨k + 1, [0, 1, 2], by omega, by omega, And.intro rfl (And.intro ?_ ?_)⟩
          all_goals (repeat' (first | exact True.intro | exact rfl | refine And.intro ?_ ?_))
          all_goals (show DV.bool _ = DV.bool _; rw [hs]; simp)
      · simp only [q1, Bool.false_and, Bool.or_false] at hs
        intro z hz
        conv => whnf
        rw [wrap_small (by omega) (by omega)] at hz
        subst hz
        refine ⟨k + 1, [0, 1, 2], by omega, by omega, And.intro rfl (And.intro ?_ ?_)⟩
        all_goals (repeat' (first | exact True.intro | exact rfl | refine And.intro ?_ ?_))
        all_goals (show DV.bool _ = DV.bool _; rw [hs])
    · conv => whnf
      have hk' : k = l.held.length := by simp at h_; omega
      subst hk'
      rw [List.take_length, List.nil_append]
      refine loopV_of (fun k : Nat => ⟨[.any, .d (.int .i64 at_), .ptr 0 0 0, .any, .ptr 0 1 0, .ptr 0 2 0, .any, .any, .d (.int .i64 k), .any, .any, .any, .any, .any, .any, .any, .any, .any, .any, .any, .any, .any, .any, .any, .any, .any, .any, .any, .any, .any, .any, .any, .any, .any, .any, .any, .any, .any, .any, .any, .any, .any, .any, .any, .any, .any, .any, .any, .any, .any, .any, .any, .any, .any, .any, .any, .any, .any, .any, .any, .any, .any], [.box [.d (encLocks l.held), .d (encLocks l.queue)], .box [.kb false, .kb false, .kb false, .kb false], .box [.d (.bool (anyB x (l.held ++ l.queue.take k) 0)), .d (.bool (anyB x (l.held ++ l.queue.take k) 1)), .d (.bool (anyB x (l.held ++ l.queue.take k) 2)), .d (.bool (anyB x (l.held ++ l.queue.take k) 3))]]⟩)
        (fun k => k ≤ at_) (fun k => at_ - k) 0 [0, 1, 2] (Nat.zero_le _) ?_ ?_
      · refine And.intro rfl (And.intro ?_ ?_)
        all_goals (repeat' (first | exact True.intro | exact rfl | refine And.intro ?_ ?_))
        all_goals (show DV.bool _ = DV.bool _; simp; done)
      · intro k hkl
        conv => whnf
        refine And.intro (fun h_ => ?_) (fun h_ => ?_)
        · conv => whnf
          have hk' : k < at_ := by simpa using h_
          obtain ⟨y, hy⟩ : ∃ y, l.queue[k]? = some y := ⟨_, List.getElem?_eq_getElem (by omega)⟩
          have hs := fun o => anyB_snoc (x := x) hy l.held o
          refine ⟨by omega, cLock y, by simp [hy], rfl, ?_⟩
          conv => whnf
          refine ⟨by omega, cLock x, by simp [hx], rfl, ?_⟩
          conv => whnf
          refine ⟨_, _, c22 y x _, True.intro, ?_⟩
          conv => whnf
          refine And.intro (fun q1 => ?_) (fun q1 => ?_) <;> (conv => whnf)
          · simp only [q1, Bool.true_and] at hs
            refine ⟨by omega, cLock y, by simp [hy], rfl, ?_⟩
            conv => whnf
            refine idx4 (o2 y (List.mem_of_getElem? hy)) (fun ho => ?_) (fun ho => ?_) (fun ho => ?_) (fun ho => ?_)
            all_goals
              simp only [ho] at hs
              conv => whnf
              intro z hz
              conv => whnf
              rw [wrap_small (by omega) (by omega)] at hz
              subst hz
              refine ⟨k + 1, [0, 1, 2], by omega, by omega, And.intro rfl (And.intro ?_ ?_)⟩
              all_goals (repeat' (first | exact True.intro | exact rfl | refine And.intro ?_ ?_))
              all_goals (show DV.bool _ = DV.bool _; rw [hs]; simp)
          · simp only [q1, Bool.false_and, Bool.or_false] at hs
            intro z hz
            conv => whnf
            rw [wrap_small (by omega) (by omega)] at hz
            subst hz
            refine ⟨k + 1, [0, 1, 2], by omega, by omega, And.intro rfl (And.intro ?_ ?_)⟩
            all_goals (repeat' (first | exact True.intro | exact rfl | refine And.intro ?_ ?_))
            all_goals (show DV.bool _ = DV.bool _; rw [hs])
        · conv => whnf
          have hk' : k = at_ := by simp at h_; omega
          subst hk'
          exact ⟨[], rfl, (by (repeat' (first | exact True.intro | exact rfl | refine And.intro ?_ ?_))), True.intro⟩
/-! ### owners, in a list -/
def bitsL : List Bool → Int → List Int
  | [], _ => []
  | b :: bs, i => bif b then i :: bitsL bs (i + 1) else bitsL bs (i + 1)
theorem bitsL_len : ∀ (l : List Bool) (i : Int), (bitsL l i).length ≤ l.length
  | [], i => Nat.le_refl _
  | b :: bs, i => by
    have := bitsL_len bs (i + 1)
    cases b <;> simp [bitsL] <;> omega
def pBits (b0 b1 b2 b3 : Bool) : PV := .agg [.d (.bool b0), .d (.bool b1), .d (.bool b2), .d (.bool b3)]
theorem c47r (b0 b1 b2 b3 : Bool) (H : List (List Blk)) : CallEq X H 47 [pBits b0 b1 b2 b3] (.row 0 0 (bitsL [b0, b1, b2, b3] 0).length) [⟨3, 1, rowI (bitsL [b0, b1, b2, b3] 0)⟩] := by
  refine callEq_of_body X_ok rfl Try.func47 rfl ?_
  conv => whnf
  refine loopV_of (fun k : Nat => ⟨[.any, .ptr 0 0 0, .any, .row 0 1 (bitsL ([b0, b1, b2, b3].take k) 0).length, .d (.int .i64 k), .any, .any, .any, .any, .any, .any, .any, .any, .any, .any, .any, .any], [.box [.d (.bool b0), .d (.bool b1), .d (.bool b2), .d (.bool b3)], .row 3 1 (rowI (bitsL ([b0, b1, b2, b3].take k) 0))]⟩)
    (fun k => k ≤ 4) (fun k => 4 - k) 0 [0, 1] (Nat.zero_le _) ?_ ?_
  · refine And.intro rfl (And.intro ?_ ?_)
    all_goals (repeat' (first | exact True.intro | exact rfl | refine And.intro ?_ ?_))
  · intro k hk
    have step : ∀ (k : Nat) (b : Bool), [b0, b1, b2, b3][k]? = some b → bitsL ([b0, b1, b2, b3].take (k + 1)) 0 = bitsL ([b0, b1, b2, b3].take k) 0 ++ bif b then [(k : Int)] else [] := by
      intro k b h
      match k, h with
      | 0, h => simp at h; subst h; cases b0 <;> rfl
      | 1, h => simp at h; subst h; cases b0 <;> cases b1 <;> rfl
      | 2, h => simp at h; subst h; cases b0 <;> cases b1 <;> cases b2 <;> rfl
      | 3, h => simp at h; subst h; cases b0 <;> cases b1 <;> cases b2 <;> cases b3 <;> rfl
      | k + 4, h => simp at h
    match k, hk with
    | 4, _ =>
      conv => whnf
      refine And.intro (fun h_ => absurd h_ (by decide)) (fun h_ => ?_)
      conv => whnf
      exact ⟨[1], rfl, And.intro rfl rfl, And.intro (And.intro rfl (And.intro rfl rfl)) True.intro⟩
    | 0, _ =>
      have st := step 0 b0 rfl
      have hl : (bitsL [] 0).length ≤ 0 := bitsL_len _ _
      conv => whnf
      refine And.intro (fun h_ => ?_) (fun h_ => absurd h_ (by decide))
      conv => whnf
      refine ⟨by decide, by decide, 0, rfl, ?_⟩
      conv => whnf
      refine And.intro (fun q1 => ?_) (fun q1 => ?_) <;> (conv => whnf)
      · refine ⟨fun y hy => by simp at hy; subst hy; rfl, ?_⟩
        conv => whnf
        refine ⟨(rowI_len _).symm, by (first | omega | (dsimp only; omega) | (simp; done) | (simp; omega)), ?_⟩
        conv => whnf
        intro z hz
        conv => whnf
        subst hz
        simp only [q1, cond_true] at st
        refine ⟨0 + 1, [0, 2], by omega, by omega, And.intro rfl (And.intro ?_ ?_)⟩
        all_goals (repeat' (first | exact True.intro | exact rfl | refine And.intro ?_ ?_))
        · show PV.row 0 2 _ = PV.row 0 2 _
          simp only [q1, st]; simp
        · simp only [q1, st]; simp [rowI]
      · intro z hz
        conv => whnf
        subst hz
        simp only [q1, cond_false, List.append_nil] at st
        refine ⟨0 + 1, [0, 1], by omega, by omega, And.intro rfl (And.intro ?_ ?_)⟩
        all_goals (repeat' (first | exact True.intro | exact rfl | refine And.intro ?_ ?_))
        · show PV.row 0 1 _ = PV.row 0 1 _
          simp only [q1, st]
        · simp only [q1, st]
    | 1, _ =>
      have st := step 1 b1 rfl
      have hl : (bitsL [b0] 0).length ≤ 1 := bitsL_len _ _
      conv => whnf
      refine And.intro (fun h_ => ?_) (fun h_ => absurd h_ (by decide))
      conv => whnf
      refine ⟨by decide, by decide, 1, rfl, ?_⟩
      conv => whnf
      refine And.intro (fun q1 => ?_) (fun q1 => ?_) <;> (conv => whnf)
      · refine ⟨fun y hy => by simp at hy; subst hy; rfl, ?_⟩
        conv => whnf
        refine ⟨(rowI_len _).symm, by (first | omega | (dsimp only; omega) | (simp; done) | (simp; omega)), ?_⟩
        conv => whnf
        intro z hz
        conv => whnf
        subst hz
        simp only [q1, cond_true] at st
        refine ⟨1 + 1, [0, 2], by omega, by omega, And.intro rfl (And.intro ?_ ?_)⟩
        all_goals (repeat' (first | exact True.intro | exact rfl | refine And.intro ?_ ?_))
        · show PV.row 0 2 _ = PV.row 0 2 _
          simp only [q1, st]; simp
        · simp only [q1, st]; simp [rowI]
      · intro z hz
        conv => whnf
        subst hz
        simp only [q1, cond_false, List.append_nil] at st
        refine ⟨1 + 1, [0, 1], by omega, by omega, And.intro rfl (And.intro ?_ ?_)⟩
        all_goals (repeat' (first | exact True.intro | exact rfl | refine And.intro ?_ ?_))
        · show PV.row 0 1 _ = PV.row 0 1 _
          simp only [q1, st]
        · simp only [q1, st]
    | 2, _ =>
      have st := step 2 b2 rfl
      have hl : (bitsL [b0, b1] 0).length ≤ 2 := bitsL_len _ _
      conv => whnf
      refine And.intro (fun h_ => ?_) (fun h_ => absurd h_ (by decide))
      conv => whnf
      refine ⟨by decide, by decide, 2, rfl, ?_⟩
      conv => whnf
      refine And.intro (fun q1 => ?_) (fun q1 => ?_) <;> (conv => whnf)
      · refine ⟨fun y hy => by simp at hy; subst hy; rfl, ?_⟩
        conv => whnf
        refine ⟨(rowI_len _).symm, by (first | omega | (dsimp only; omega) | (simp; done) | (simp; omega)), ?_⟩
        conv => whnf
        intro z hz
        conv => whnf
        subst hz
        simp only [q1, cond_true] at st
        refine ⟨2 + 1, [0, 2], by omega, by omega, And.intro rfl (And.intro ?_ ?_)⟩
        all_goals (repeat' (first | exact True.intro | exact rfl | refine And.intro ?_ ?_))
        · show PV.row 0 2 _ = PV.row 0 2 _
          simp only [q1, st]; simp
        · simp only [q1, st]; simp [rowI]
      · intro z hz
        conv => whnf
        subst hz
        simp only [q1, cond_false, List.append_nil] at st
        refine ⟨2 + 1, [0, 1], by omega, by omega, And.intro rfl (And.intro ?_ ?_)⟩
        all_goals (repeat' (first | exact True.intro | exact rfl | refine And.intro ?_ ?_))
        · show PV.row 0 1 _ = PV.row 0 1 _
          simp only [q1, st]
        · simp only [q1, st]
    | 3, _ =>
      have st := step 3 b3 rfl
      have hl : (bitsL [b0, b1, b2] 0).length ≤ 3 := bitsL_len _ _
      conv => whnf
      refine And.intro (fun h_ => ?_) (fun h_ => absurd h_ (by decide))
      conv => whnf
      refine ⟨by decide, by decide, 3, rfl, ?_⟩
      conv => whnf
      refine And.intro (fun q1 => ?_) (fun q1 => ?_) <;> (conv => whnf)
      · refine ⟨fun y hy => by simp at hy; subst hy; rfl, ?_⟩
        conv => whnf
        refine ⟨(rowI_len _).symm, by (first | omega | (dsimp only; omega) | (simp; done) | (simp; omega)), ?_⟩
        conv => whnf
        intro z hz
        conv => whnf
        subst hz
        simp only [q1, cond_true] at st
        refine ⟨3 + 1, [0, 2], by omega, by omega, And.intro rfl (And.intro ?_ ?_)⟩
        all_goals (repeat' (first | exact True.intro | exact rfl | refine And.intro ?_ ?_))
        · show PV.row 0 2 _ = PV.row 0 2 _
          simp only [q1, st]; simp
        · simp only [q1, st]; simp [rowI]
      · intro z hz
        conv => whnf
        subst hz
        simp only [q1, cond_false, List.append_nil] at st
        refine ⟨3 + 1, [0, 1], by omega, by omega, And.intro rfl (And.intro ?_ ?_)⟩
        all_goals (repeat' (first | exact True.intro | exact rfl | refine And.intro ?_ ?_))
        · show PV.row 0 1 _ = PV.row 0 1 _
          simp only [q1, st]
        · simp only [q1, st]
theorem c47 (b0 b1 b2 b3 : Bool) (H : List (List Blk)) : CallEq X H 47 [pBits b0 b1 b2 b3] (.d (encI (bitsL [b0, b1, b2, b3] 0))) [] :=
  (c47r b0 b1 b2 b3 H).freeze 1 (by
    change PV.d (.sl (List.take _ (rowI _))) = _
    rw [List.take_of_length_le (by rw [rowI_len]; exact Nat.le_refl _)]; rfl)
end Go.Proofs.Ve
