/- A call to which rows are given: what the value machine says of it is so. -/
import Derived.Test.YtpmhiiembbfbeaaV14
set_option linter.all false
namespace Go.Proofs.Ve
open Go

def giveM (m : M) (bs : List Nat) : M := ⟨m.w, fun l i => match l with | 0 => (bs[i]?).bind (m.ρ 0) | l + 1 => m.ρ l i, m.U⟩
theorem keep_lent_give (m : M) (bs : List Nat) : Keep (lentM m []) (giveM m bs) := by
  refine ⟨fun l i v h => ?_, Nat.le_refl _, fun k hk => ⟨fun hu => hk.2 ⟨hu, ?_⟩, rfl⟩⟩
  · cases l with
    | zero => cases h
    | succ l => exact h
  · rintro ⟨i, v, hi, _⟩; cases hi

theorem giveArgs_spec {top : List Blk} : ∀ (ps : List PV) (bs0 : List Nat) (K : List PV → List Nat → List RowB → Prop), bs0.Nodup → giveArgsK top ps bs0 K →
    ∃ ps' bs G, K ps' bs G ∧ bs.length = G.length ∧ (bs0 ++ bs).Nodup ∧ (∀ (g : Nat) i, bs[g]? = some i → ∃ r, G[g]? = some r ∧ top[i]? = some r.blk) ∧
      ∀ (m : M) (H : List (List Blk)) (ba : List Nat), (bs0 ++ bs) <+: ba → Inv m top H → ps'.length = ps.length ∧ ∀ (j : Nat) p' v, ps'[j]? = some p' → (∀ p, ps[j]? = some p → RP m p v) → RP (giveM m ba) p' v
  | [], bs0, K, hnd, h => ⟨[], [], [], h, rfl, by simpa using hnd, fun g i hg => by simp at hg, fun m H ba _ _ => ⟨rfl, fun j p' v hp => by simp at hp⟩⟩
  | p :: ps, bs0, K, hnd, h => by
    simp only [giveArgsK, giveOneK] at h
    split at h
    · rename_i i n
      obtain ⟨b, hb, h⟩ := getK_spec.1 h
      split at h
      case h_2 => exact h.elim
      rename_i e sz xs
      split at h
      · exact h.elim
      · rename_i hno
        rw [lenK_spec] at h
        rw [snocK_spec] at h
        have hni : i ∉ bs0 := fun hi => by
          rw [List.any_eq_false] at hno
          exact hno i hi (by simp)
        obtain ⟨ps', bs, G, hk, h1, h2, h3, h4⟩ := giveArgs_spec ps _ _ (by
          rw [List.nodup_append]
          refine ⟨hnd, by simp, fun a ha b hb e => ?_⟩
          simp at hb; subst hb; subst e; exact hni ha) h
        refine ⟨_, _, _, hk, by simp [h1], by simpa using h2, fun g j hg => ?_, fun m H ba hpre hinv => ?_⟩
        · cases g with
          | zero => simp at hg; subst hg; exact ⟨_, rfl, hb⟩
          | succ g => exact h3 g j (by simpa using hg)
        · obtain ⟨q1, q2⟩ := h4 m H ba (by simpa using hpre) hinv
          refine ⟨by simp [q1], fun j p' v hp hv => ?_⟩
          cases j with
          | zero =>
            simp at hp
            subst hp
            have := hv _ rfl
            cases this with
            | row _ _ _ N c A hρ hn hc =>
              refine .row _ _ _ N c A ?_ hn hc
              obtain ⟨t, rfl⟩ := hpre
              simp [giveM, hρ]
          | succ j => exact q2 j p' v (by simpa using hp) (fun p0 h0 => hv p0 (by simpa using h0))
    · obtain ⟨p', b1, h, _, _, hr⟩ := argK_spec p [] _ h
      split at h
      case h_2 => exact h.elim
      obtain ⟨ps', bs, G, hk, h1, h2, h3, h4⟩ := giveArgs_spec ps _ _ hnd h
      refine ⟨_, _, _, hk, h1, h2, h3, fun m H ba hpre hinv => ?_⟩
      obtain ⟨q1, q2⟩ := h4 m H ba hpre hinv
      refine ⟨by simp [q1], fun j p2 v hp hv => ?_⟩
      cases j with
      | zero =>
        simp at hp
        subst hp
        exact (hr m H [] v (fun i hi => hi) hinv (hv p rfl)).keep (keep_lent_give m ba)
      | succ j => exact q2 j p2 v (by simpa using hp) (fun p0 h0 => hv p0 (by simpa using h0))

theorem backK_spec : ∀ (is : List Nat) (gs : List (Option RowB)) (top : List Blk) (K : List Blk → Prop), is.Nodup → backK top is gs K →
    ∃ top2, K top2 ∧ is.length = gs.length ∧ top2.length = top.length ∧ (∀ i, i ∉ is → top2[i]? = top[i]?) ∧ ∀ (g : Nat) i, is[g]? = some i → ∃ b, gs[g]? = some b ∧ top2[i]? = some (gblk b)
  | [], [], top, K, _, h => ⟨top, h, rfl, rfl, fun i _ => rfl, fun g i hg => by simp at hg⟩
  | [], _ :: _, top, K, _, h => h.elim
  | _ :: _, [], top, K, _, h => h.elim
  | i :: is, g :: gs, top, K, hnd, h => by
    rw [List.nodup_cons] at hnd
    obtain ⟨top2, h, h1, h2, h3, h4⟩ := backK_spec is gs top _ hnd.2 h
    obtain ⟨hlt, h⟩ := setK_spec.1 h
    refine ⟨_, h, by simp [h1], by simp [h2], fun j hj => ?_, fun k j hk => ?_⟩
    · rw [List.mem_cons, not_or] at hj
      rw [List.getElem?_set_ne (fun e => hj.1 e.symm)]
      exact h3 j hj.2
    · cases k with
      | zero => simp at hk; subst hk; exact ⟨g, rfl, by simp [hlt]⟩
      | succ k =>
        have hk' : is[k]? = some j := by simpa using hk
        obtain ⟨b, hb, ht⟩ := h4 k j hk'
        refine ⟨b, by simpa using hb, ?_⟩
        rw [List.getElem?_set_ne]
        · exact ht
        · rintro rfl; exact hnd.1 (List.mem_of_getElem? hk')

theorem give_spec {C : Cx} {H : List (List Blk)} {top : List Blk} {f : Nat} {args : List PV} {K : PV → List Blk → Prop} (h : giveK C H top f args K) :
    ∃ pv top', K pv top' ∧ top.length ≤ top'.length ∧ ∀ (m : M) (vs : Array Value), Inv m top H → args.length = vs.size → (∀ (j : Nat) p v, args[j]? = some p → vs[j]? = some v → RP m p v) → (∀ j, top.length ≤ j → m.ρ 0 j = none) →
      Calls C.P f vs m.w fun e w' => ∃ v m', e = .returned v ∧ m'.w = w' ∧ Turn m m' top ∧ (∀ l j, ¬ (l = 0 ∧ top.length ≤ j ∧ j < top'.length) → m'.ρ l j = m.ρ l j) ∧
        (∀ j u k, top.length ≤ j → j < top'.length → m'.ρ 0 j = some u → blkOf u = some k → m.w.heap.size ≤ k ∨ Mine m top k) ∧ Inv m' top' H ∧ RP m' pv v := by
  obtain ⟨args', bs, G, h, hbl, hnd, hbs, hargs⟩ := giveArgs_spec args [] _ List.nodup_nil h
  rw [List.nil_append] at hnd
  obtain ⟨top1, h, hl1, hd1, hs1⟩ := hideK_spec bs _ h
  obtain ⟨r, G', N, hcall, h⟩ := h
  rw [lenK_spec, lenK_spec] at h
  obtain ⟨pv, h, hpv⟩ := adoptK_spec r _ h
  obtain ⟨top2, h, hg1, hl2, hs2, hb2⟩ := backK_spec bs G' top _ hnd h
  rw [appK_spec] at h
  unfold CallEqG at hcall
  obtain ⟨hgl, hcall⟩ := hcall
  have hNl : (blksOf N).length = N.length := by rw [blksOf_eq]; simp
  refine ⟨pv, _, h, by simp [hl2], fun m vs hinv hlen hrel hfree => ?_⟩
  obtain ⟨hal, har⟩ := hargs m H bs (by simp) hinv
  have inBs : ∀ i, i ∈ bs → ∃ (g : Nat) (r : RowB), bs[g]? = some i ∧ G[g]? = some r ∧ top[i]? = some r.blk := fun i hi => by
    obtain ⟨g, hg⟩ := List.mem_iff_getElem?.1 hi
    obtain ⟨r, h1, h2⟩ := hbs g i hg
    exact ⟨g, r, hg, h1, h2⟩
  -- as the callee sees it
  have phi : ∀ l i b, getB (G.map RowB.blk) (top1 :: H) l i = some b → b.live = true → ∃ l' i', getB top H l' i' = some b ∧ (giveM m bs).ρ l i = m.ρ l' i' ∧ ((l = 0 ∧ l' = 0 ∧ bs[i]? = some i') ∨ (l = l' + 1 ∧ i = i' ∧ (l' = 0 → i ∉ bs))) := by
    intro l i b hb hl
    cases l with
    | zero =>
      simp only [getB, List.getElem?_map] at hb
      obtain ⟨r, hr, rfl⟩ := Option.map_eq_some_iff.1 hb
      have hi : i < bs.length := by rw [hbl]; exact (List.getElem?_eq_some_iff.1 hr).1
      have hbi := List.getElem?_eq_getElem hi
      obtain ⟨r', h1, h2⟩ := hbs i _ hbi
      rw [hr] at h1; cases h1
      exact ⟨0, bs[i], h2, by simp [giveM, hbi], .inl ⟨rfl, rfl, hbi⟩⟩
    | succ l =>
      cases l with
      | zero =>
        have hb' : top1[i]? = some b := by simpa [getB] using hb
        have hni : i ∉ bs := fun hi => by obtain ⟨_, _, _, _, h9⟩ := inBs i hi; rw [hd1 i hi (List.getElem?_eq_some_iff.1 h9).1] at hb'; cases hb'; cases hl
        exact ⟨0, i, by rw [getB, ← hs1 i hni]; exact hb', rfl, .inr ⟨rfl, rfl, fun _ => hni⟩⟩
      | succ l => exact ⟨l + 1, i, by simpa [getB] using hb, rfl, .inr ⟨rfl, rfl, fun h => by cases h⟩⟩
  have hinv2 : Inv (giveM m bs) (G.map RowB.blk) (top1 :: H) := by
    refine ⟨fun l i b hb => ?_, fun l i b l' i' b' v v' k h1 h2 h3 h4 h5 h6 h7 h8 => ?_, fun l i b v k h1 h2 h3 h4 => ?_, hinv.lt⟩
    · cases hlv : b.live with
      | false => cases b <;> simp [Blk.live] at hlv; trivial
      | true =>
        obtain ⟨l', i', h1, h2, h3⟩ := phi l i b hb hlv
        have hbo := hinv.blk l' i' b h1
        cases b with
        | dead => trivial
        | row e sz xs => exact fun v hv => hbo v (h2 ▸ hv)
        | box cs =>
          intro v hv
          rw [h2] at hv
          obtain ⟨g, us, e, q1, q2, q3, q4⟩ := hbo v hv
          rcases h3 with ⟨rfl, _, _⟩ | ⟨rfl, rfl, _⟩
          · simp only [getB, List.getElem?_map] at hb
            obtain ⟨r, _, hr⟩ := Option.map_eq_some_iff.1 hb
            cases hr
          · exact ⟨g, us, e, q1, q2, q3, q4⟩
    · obtain ⟨a, b1, c1, c2, c3⟩ := phi l i b h1 h2
      obtain ⟨a', b1', c1', c2', c3'⟩ := phi l' i' b' h3 h4
      rw [c2] at h5; rw [c2'] at h6
      obtain ⟨rfl, rfl⟩ := hinv.inj a b1 b a' b1' b' v v' k c1 h2 c1' h4 h5 h6 h7 h8
      rcases c3 with ⟨rfl, rfl, d1⟩ | ⟨rfl, rfl, d1⟩ <;> rcases c3' with ⟨rfl, e0, e1⟩ | ⟨rfl, rfl, e1⟩
      · refine ⟨rfl, ?_⟩
        have hi := (List.getElem?_eq_some_iff.1 d1).1
        have hi' := (List.getElem?_eq_some_iff.1 e1).1
        exact (List.getElem?_inj hi hnd).1 (d1.trans e1.symm)
      · exact absurd (List.mem_of_getElem? d1) (e1 rfl)
      · subst e0; exact absurd (List.mem_of_getElem? e1) (d1 rfl)
      · exact ⟨rfl, rfl⟩
    · obtain ⟨a, b1, c1, c2, _⟩ := phi l i b h1 h2
      rw [c2] at h3
      exact hinv.own a b1 b v k c1 h2 h3 h4
  refine (hcall (giveM m bs) vs hinv2 (fun i hi => by simp [giveM, List.getElem?_eq_none (show bs.length ≤ i by omega)]) (hal.trans hlen) (fun j p v hp hv => har j p v hp (fun p0 h0 => hrel j p0 v h0 hv))).mono ?_
  rintro e w' ⟨v, m3, rfl, rfl, hs, hnames, hi3, hr⟩
  -- what was given is the caller's
  have mine : ∀ k, Mine (giveM m bs) (G.map RowB.blk) k → Mine m top k := by
    rintro k ⟨i, b, u, h1, h2, h3, h4⟩
    obtain ⟨l', i', c1, c2, c3⟩ := phi 0 i b (by simpa [getB] using h1) h2
    rcases c3 with ⟨_, rfl, _⟩ | ⟨h, _⟩
    · exact ⟨i', b, u, c1, h2, by rw [← c2]; exact h3, h4⟩
    · cases h
  have hup : ∀ l i, m3.ρ (l + 1) i = m.ρ l i := fun l i => hs.up l i
  let m' : M := ⟨m3.w, fun l i => match l with | 0 => if top.length ≤ i then (if i < top.length + N.length then m3.ρ 0 (i - top.length) else none) else m.ρ 0 i | l + 1 => m.ρ (l + 1) i, m3.U⟩
  have hold : ∀ l i, ¬ (l = 0 ∧ top.length ≤ i ∧ i < top.length + N.length) → m'.ρ l i = m.ρ l i := by
    intro l i hn
    cases l with
    | succ l => rfl
    | zero =>
      show (if top.length ≤ i then (if i < top.length + N.length then m3.ρ 0 (i - top.length) else none) else m.ρ 0 i) = m.ρ 0 i
      split
      · rename_i h1
        rw [if_neg (fun h2 => hn ⟨rfl, h1, h2⟩), hfree i h1]
      · rfl
  have hnew : ∀ i, i < N.length → m'.ρ 0 (top.length + i) = m3.ρ 0 i := by
    intro i hi
    show (if top.length ≤ top.length + i then (if top.length + i < top.length + N.length then m3.ρ 0 (top.length + i - top.length) else none) else m.ρ 0 (top.length + i)) = _
    rw [if_pos (by omega), if_pos (by omega), show top.length + i - top.length = i by omega]
  have hT : Turn m m' top := by
    refine ⟨hs.os, hs.tape, hs.output, hs.size, fun k hk hnm => hs.heap k hk (fun h => hnm (mine k h)), fun l i u hu => ?_, fun k hk => hs.U k hk⟩
    rw [hold l i]
    · exact hu
    · rintro ⟨rfl, h1, _⟩; rw [hfree i h1] at hu; cases hu
  have hK := hT.keep hinv
  -- where a block of the caller's stands for the callee
  have psi : ∀ l i b, getB (top2 ++ blksOf N) H l i = some b → b.live = true → ∃ L I, getB (N.map RowB.blk ++ G'.map gblk) (top1 :: H) L I = some b ∧ m'.ρ l i = m3.ρ L I ∧
      ((l = 0 ∧ L = 0 ∧ i = top.length + I ∧ I < N.length) ∨ (l = 0 ∧ L = 0 ∧ ∃ g, I = N.length + g ∧ bs[g]? = some i) ∨ (L = l + 1 ∧ I = i ∧ (l = 0 → i < top.length ∧ i ∉ bs))) := by
    intro l i b hb hl
    cases l with
    | succ l => exact ⟨l + 2, i, by simpa [getB] using hb, (hup (l + 1) i).symm, .inr (.inr ⟨rfl, rfl, fun h => by cases h⟩)⟩
    | zero =>
      simp only [getB] at hb
      rcases Nat.lt_or_ge i top2.length with h1 | h1
      · rw [List.getElem?_append_left h1] at hb
        have hlt : i < top.length := by omega
        have hρ : m'.ρ 0 i = m.ρ 0 i := hold 0 i (by omega)
        by_cases hi : i ∈ bs
        · obtain ⟨g, hg⟩ := List.mem_iff_getElem?.1 hi
          obtain ⟨b', q1, q2⟩ := hb2 g i hg
          rw [q2] at hb; cases hb
          have hgl' : g < G.length := by rw [← hbl]; exact (List.getElem?_eq_some_iff.1 hg).1
          refine ⟨0, N.length + g, ?_, ?_, .inr (.inl ⟨rfl, rfl, g, rfl, hg⟩)⟩
          · simp only [getB]
            rw [List.getElem?_append_right (by simp), List.getElem?_map]
            simp [q1]
          · rw [hρ, hnames g hgl']; simp [giveM, hg]
        · refine ⟨1, i, ?_, by rw [hρ, hup], .inr (.inr ⟨rfl, rfl, fun _ => ⟨hlt, hi⟩⟩)⟩
          simp only [getB, List.getElem?_cons_zero, Option.bind_some]
          rw [hs1 i hi, ← hs2 i hi]; exact hb
      · rw [List.getElem?_append_right h1, blksOf_eq] at hb
        have hlt : i - top2.length < N.length := by have := (List.getElem?_eq_some_iff.1 hb).1; simpa using this
        refine ⟨0, i - top2.length, ?_, ?_, .inl ⟨rfl, rfl, by omega, hlt⟩⟩
        · simp only [getB]; rw [List.getElem?_append_left (by simpa using hlt)]; exact hb
        · have := hnew _ hlt
          rwa [show top.length + (i - top2.length) = i by omega] at this
  refine ⟨v, m', rfl, rfl, hT, fun l j hj => hold l j (fun h => hj ⟨h.1, h.2.1, by simp [hl2, hNl]; omega⟩), fun j u k h1 h2 hu hk => ?_, ⟨fun l i b hb => ?_, fun l i b l' i' b' v1 v2 k h1 h2 h3 h4 h5 h6 h7 h8 => ?_, fun l i b v1 k h1 h2 h3 h4 => ?_, hi3.lt⟩, hpv m3 m' v (fun i u hi hu => by rw [hnew i (by rwa [hNl] at hi)]; exact hu) (.inr fun x v hx => hx) hr⟩
  · have h2' : j < top.length + N.length := by simpa [hl2, hNl] using h2
    have := hnew (j - top.length) (by omega)
    rw [show top.length + (j - top.length) = j by omega] at this
    rw [this] at hu
    exact (hs.fresh _ u k hu hk).imp id (mine k)
  · cases hlv : b.live with
    | false => cases b <;> simp [Blk.live] at hlv; trivial
    | true =>
      obtain ⟨L, I, c1, c2, c3⟩ := psi l i b hb hlv
      have hbo := hi3.blk L I b c1
      cases b with
      | dead => trivial
      | row e sz xs => exact fun u hu => hbo u (c2 ▸ hu)
      | box cs =>
        intro u hu
        rw [c2] at hu
        obtain ⟨g, us, e, q1, q2, q3, q4⟩ := hbo u hu
        refine ⟨g, us, e, q1, q2, q3, fun j p x hp hx => (q4 j p x hp hx).keep ?_⟩
        rcases c3 with ⟨_, rfl, _, hlt⟩ | ⟨_, rfl, g', rfl, _⟩ | ⟨rfl, rfl, hh⟩
        · exfalso
          simp only [getB] at c1
          rw [List.getElem?_append_left (by simpa using hlt), List.getElem?_map] at c1
          obtain ⟨r, _, hr⟩ := Option.map_eq_some_iff.1 c1
          cases hr
        · exfalso
          simp only [getB] at c1
          rw [List.getElem?_append_right (by simp), List.getElem?_map] at c1
          obtain ⟨r, _, hr⟩ := Option.map_eq_some_iff.1 c1
          cases r <;> cases hr
        · refine ⟨fun a i' u' hu' => ?_, Nat.le_refl _, fun k hk => ⟨hk.2, rfl⟩⟩
          have h1 : m.ρ (a + l) i' = some u' := by rw [← hup]; exact hu'
          exact hT.ρ _ _ _ h1
  · obtain ⟨L, I, c1, c2, c3⟩ := psi l i b h1 h2
    obtain ⟨L', I', c1', c2', c3'⟩ := psi l' i' b' h3 h4
    rw [c2] at h5; rw [c2'] at h6
    obtain ⟨rfl, rfl⟩ := hi3.inj L I b L' I' b' v1 v2 k c1 h2 c1' h4 h5 h6 h7 h8
    rcases c3 with ⟨rfl, rfl, rfl, d⟩ | ⟨rfl, rfl, g, rfl, d⟩ | ⟨rfl, rfl, d⟩ <;> rcases c3' with ⟨rfl, e0, e1, e2⟩ | ⟨rfl, e0, g', e1, e2⟩ | ⟨e0, e1, e2⟩
    · exact ⟨rfl, by omega⟩
    · omega
    · cases e0
    · omega
    · have : g = g' := by omega
      subst this
      rw [d] at e2; cases e2; exact ⟨rfl, rfl⟩
    · cases e0
    · cases e0
    · cases e0
    · exact ⟨by omega, e1⟩
  · obtain ⟨L, I, c1, c2, _⟩ := psi l i b h1 h2
    rw [c2] at h3
    exact hi3.own L I b v1 k c1 h2 h3 h4
end Go.Proofs.Ve
