/- What the value machine says of a call is so. -/
import Derived.Test.YtpmhiiembbfbeaaV10
set_option linter.all false
namespace Go.Proofs.Ve
open Go

def Lent (m : M) (bs : List Nat) (k : Nat) : Prop := ∃ i v, i ∈ bs ∧ m.ρ 0 i = some v ∧ blkOf v = some k
/-- As a callee sees it, some rows lent to it. -/
def lentM (m : M) (bs : List Nat) : M := ⟨m.w, fun l i => match l with | 0 => none | l + 1 => m.ρ l i, fun k => m.U k ∧ ¬ Lent m bs k⟩
theorem lent_ok {m : M} {bs : List Nat} (k : Nat) (h : m.ok k) : (lentM m bs).ok k := ⟨h.1, fun hu => h.2 hu.1⟩
theorem rd_lent {m : M} {bs : List Nat} {x : DV} {v : Value} (h : RD m.w m.ok x v) : RD (lentM m bs).w (lentM m bs).ok x v := h.mono fun k hk => ⟨lent_ok k hk, rfl⟩
theorem own_rd {m : M} {top : List Blk} {H : List (List Blk)} (hinv : Inv m top H) {i n c : Nat} {A : Option Addr} {e sz : Nat} {xs : List (List DV)} (hb : top[i]? = some (.row e sz xs)) {N : Nat}
    (hρ : m.ρ 0 i = some (.slice A N c)) (hn : n ≤ N) (hc : N ≤ c) {m' : M} (hw : m'.w = m.w) (hok : ∀ k, m.ok k → m'.ok k) (hg : ∀ k, blkOf (.slice A N c) = some k → ¬ m'.U k) : RD m'.w m'.ok (.sl (xs.take n)) (.slice A n c) := by
  obtain ⟨hp, hxs, flat, ho, hrd⟩ := hinv.blk 0 i _ hb _ hρ
  have hfl : flat.length = xs.length * sz := ho.1
  have hnx : N = xs.length ∧ c ≤ 9223372036854775807 ∧ (A = none → N = 0) ∧ ∀ a, A = some a → a = ⟨a.block, 0, none⟩ := by
    rcases ho.2 with ⟨h, h0⟩ | ⟨g, cap, cur, h, _, _, h1, h2, _⟩
    · simp only [Value.slice.injEq] at h
      obtain ⟨rfl, rfl, rfl⟩ := h
      exact ⟨h0.symm, by omega, (fun _ => rfl), (fun a ha => by cases ha)⟩
    · simp only [Value.slice.injEq] at h
      obtain ⟨rfl, rfl, rfl⟩ := h
      unfold maxLen at h2
      exact ⟨rfl, h2, (fun h => by cases h), (fun a ha => by cases ha; rfl)⟩
  obtain ⟨hN, hc9, hA0, hA1⟩ := hnx
  have hok' : ∀ k, m.ok k → m'.ok k ∧ m'.w.heap[k]? = m.w.heap[k]? := fun k hk => ⟨hok k hk, by rw [hw]⟩
  cases A with
  | none =>
    have h0 := hA0 rfl
    obtain rfl : n = 0 := by omega
    exact .sl sz _ none 0 c default (fun _ => undef) (by simp) (Nat.zero_le _) (by omega) (by omega) (by simp) (fun a x j y hx => by simp at hx) (fun a x j y hx => by simp at hx)
  | some ad =>
    refine .sl sz _ (some ad) n c ad (fun k => flat.getD k undef) (by rw [List.length_take]; omega) (by omega) (by omega) (fun _ => rfl) (fun x hx => hxs x (List.mem_of_mem_take hx)) (fun a x j y hx hy => ?_) (fun a x j y hx hy => ?_)
    all_goals
      have hal : a < n := by
        rcases Nat.lt_or_ge a n with h1 | h1
        · exact h1
        · rw [List.getElem?_eq_none (by rw [List.length_take]; omega)] at hx; cases hx
      have hx' : xs[a]? = some x := by rwa [List.getElem?_take_of_lt hal] at hx
      have hjl : j < sz := by rw [← hxs x (List.mem_of_getElem? hx')]; exact (List.getElem?_eq_some_iff.1 hy).1
      have hlt : a * sz + j < flat.length := by
        rw [hfl]
        have : a * sz + sz ≤ xs.length * sz := by rw [← Nat.succ_mul]; exact Nat.mul_le_mul_right _ (by omega)
        omega
      have hf : flat[a * sz + j]? = some (flat.getD (a * sz + j) undef) := by rw [List.getD_eq_getElem?_getD, List.getElem?_eq_getElem hlt]; rfl
    · refine ⟨⟨?_, hg _ rfl⟩, ?_⟩
      · rw [hw]; exact hinv.lt _ (hinv.own 0 i _ _ _ hb rfl hρ rfl)
      · rw [hw]
        have := ho.cells (g := ad.block) rfl _ _ hf
        rw [hA1 ad rfl]
        exact this
    · exact (hrd a x j y _ hx' hy hf).mono hok'

def ArgSp (top : List Blk) (p : PV) (bs : List Nat) (K : PV → List Nat → Prop) : Prop :=
  ∃ p' bs', K p' bs' ∧ (∀ i ∈ bs, i ∈ bs') ∧ (∀ i ∈ bs', i ∈ bs ∨ ∃ e sz xs, top[i]? = some (.row e sz xs)) ∧
    ∀ (m : M) (H : List (List Blk)) (bs2 : List Nat) v, (∀ i ∈ bs', i ∈ bs2) → Inv m top H → RP m p v → RP (lentM m bs2) p' v
def ArgsSp (top : List Blk) (ps : List PV) (bs : List Nat) (K : List PV → List Nat → Prop) : Prop :=
  ∃ ps' bs', K ps' bs' ∧ (∀ i ∈ bs, i ∈ bs') ∧ (∀ i ∈ bs', i ∈ bs ∨ ∃ e sz xs, top[i]? = some (.row e sz xs)) ∧
    ∀ (m : M) (H : List (List Blk)) (bs2 : List Nat), (∀ i ∈ bs', i ∈ bs2) → Inv m top H → ps'.length = ps.length ∧ ∀ (j : Nat) p' v, ps'[j]? = some p' → (∀ p, ps[j]? = some p → RP m p v) → RP (lentM m bs2) p' v
theorem argsF_spec {top : List Blk} {one : PV → List Nat → (PV → List Nat → Prop) → Prop} (ho : ∀ p bs K, one p bs K → ArgSp top p bs K) : ∀ (ps : List PV) (bs : List Nat) (K : List PV → List Nat → Prop), argsF one ps bs K → ArgsSp top ps bs K
  | [], bs, K, h => ⟨_, _, h, fun _ h => h, fun _ h => .inl h, fun m H bs2 _ _ => ⟨rfl, fun j p' v hp => by simp at hp⟩⟩
  | p :: ps, bs, K, h => by
    rw [argsF_cons] at h
    obtain ⟨p', bs1, h, h1, h2, h3⟩ := ho p bs _ h
    obtain ⟨ps', bs2, h, h4, h5, h6⟩ := argsF_spec ho ps bs1 _ h
    refine ⟨_, _, h, fun j hj => h4 j (h1 j hj), fun j hj => ?_, fun m H bs3 hs hinv => ?_⟩
    · rcases h5 j hj with h | h
      · exact h2 j h
      · exact .inr h
    · obtain ⟨l2, q2⟩ := h6 m H bs3 hs hinv
      refine ⟨by simp [l2], fun j q v hq hv => ?_⟩
      cases j with
      | zero => simp at hq; subst hq; exact h3 m H bs3 v (fun j hj => hs j (h4 j hj)) hinv (hv p rfl)
      | succ j => exact q2 j q v hq (fun p0 h0 => hv p0 h0)
theorem argF_spec {top : List Blk} : ∀ (n : Nat) (p : PV) (bs : List Nat) (K : PV → List Nat → Prop), argF top n p bs K → ArgSp top p bs K
  | 0, p, bs, K, h => h.elim
  | n + 1, .any, bs, K, h => ⟨_, _, h, fun _ h => h, fun _ h => .inl h, fun m H bs2 v _ _ _ => .any v⟩
  | n + 1, .kb b, bs, K, h => ⟨_, _, h, fun _ h => h, fun _ h => .inl h, fun m H bs2 v _ _ hv => by cases hv; exact rd_bool _⟩
  | n + 1, .ub, bs, K, h => ⟨_, _, h, fun _ h => h, fun _ h => .inl h, fun m H bs2 v _ _ hv => by cases hv; exact .ub _⟩
  | n + 1, .d x, bs, K, h => ⟨_, _, h, fun _ h => h, fun _ h => .inl h, fun m H bs2 v _ _ hv => by cases hv with | d _ _ hx => exact .d _ _ (rd_lent hx)⟩
  | n + 1, .nils, bs, K, h => ⟨_, _, h, fun _ h => h, fun _ h => .inl h, fun m H bs2 v _ _ hv => by
      cases hv
      exact .d _ _ (.sl 0 [] none 0 0 default (fun _ => undef) rfl (Nat.le_refl _) (by omega) (by omega) (by simp) (fun i x j y hx => by simp at hx) (fun i x j y hx => by simp at hx))⟩
  | n + 1, .row 0 i k, bs, K, h => by
    change argOne top (argF top n) (.row 0 i k) bs K at h
    unfold argOne at h
    obtain ⟨b, hb, h⟩ := getK_spec.1 h
    split at h
    · rename_i e sz xs
      refine ⟨_, _, h, fun j hj => List.mem_cons_of_mem _ hj, fun j hj => ?_, fun m H bs2 v hs hinv hv => ?_⟩
      · cases hj with
        | head => exact .inr ⟨e, sz, xs, hb⟩
        | tail _ hj => exact .inl hj
      · cases hv with
        | row _ _ _ N c A hρ hn hc =>
          exact .d _ _ (own_rd hinv hb hρ hn hc rfl (fun k hk => lent_ok k hk) (fun k hk hu => hu.2 ⟨i, _, hs i List.mem_cons_self, hρ, hk⟩))
    · exact h.elim
  | n + 1, .row (l + 1) i k, bs, K, h => h.elim
  | n + 1, .ptr l i o, bs, K, h => ⟨_, _, h, fun _ h => h, fun _ h => .inl h, fun m H bs2 v _ _ hv => by cases hv with | ptr _ _ _ g hρ => exact .ptr _ _ _ _ hρ⟩
  | n + 1, .rptr l i sz e j, bs, K, h => h.elim
  | n + 1, .iptr cs, bs, K, h => ⟨_, _, h, fun _ h => h, fun _ h => .inl h, fun m H bs2 v _ _ hv => by
      cases hv with
      | iptr _ ad u hc hr => exact .iptr _ _ u (fun j y hy => ⟨lent_ok _ (hc j y hy).1, (hc j y hy).2⟩) (fun j y hy => rd_lent (hr j y hy))⟩
  | n + 1, .func fn fs cs, bs, K, h => by
    change argsF (argF top n) fs bs (fun fs' bs' => argsF (argF top n) cs bs' fun cs' bs'' => K (.func fn fs' cs') bs'') at h
    obtain ⟨fs', bs1, h, h1, h2, h3⟩ := argsF_spec (argF_spec n) fs bs _ h
    obtain ⟨cs', bs2, h, h4, h5, h6⟩ := argsF_spec (argF_spec n) cs bs1 _ h
    refine ⟨_, _, h, fun j hj => h4 j (h1 j hj), fun j hj => ?_, fun m H bs3 v hs hinv hv => ?_⟩
    · rcases h5 j hj with h | h
      · exact h2 j h
      · exact .inr h
    · cases hv with
      | func _ _ _ fv cv e1 e2 r1 r2 =>
        obtain ⟨l1, q1⟩ := h3 m H bs3 (fun j hj => hs j (h4 j hj)) hinv
        obtain ⟨l2, q2⟩ := h6 m H bs3 hs hinv
        exact .func _ _ _ _ _ (l1.trans e1) (l2.trans e2) (fun j p v hp hv => q1 j p v hp (fun p0 h0 => r1 j p0 v h0 hv)) (fun j p v hp hv => q2 j p v hp (fun p0 h0 => r2 j p0 v h0 hv))
  | n + 1, .agg cs, bs, K, h => by
    change argsF (argF top n) cs bs (fun cs' bs' => K (.agg cs') bs') at h
    obtain ⟨cs', bs1, h, h1, h2, h3⟩ := argsF_spec (argF_spec n) cs bs _ h
    refine ⟨_, _, h, h1, h2, fun m H bs3 v hs hinv hv => ?_⟩
    cases hv with
    | agg _ vs e1 r1 =>
      obtain ⟨l1, q1⟩ := h3 m H bs3 hs hinv
      exact .agg _ _ (l1.trans e1) (fun j p v hp hv => q1 j p v hp (fun p0 h0 => r1 j p0 v h0 hv))
  | n + 1, .tuple cs, bs, K, h => h.elim
theorem argK_spec {top : List Blk} (p : PV) (bs : List Nat) (K : PV → List Nat → Prop) (h : argK top p bs K) : ArgSp top p bs K := argF_spec 8 p bs K h
theorem argsK_spec {top : List Blk} (ps : List PV) (bs : List Nat) (K : List PV → List Nat → Prop) (h : argsK top ps bs K) : ArgsSp top ps bs K := argsF_spec (argF_spec 8) ps bs K h

theorem hideK_spec {top : List Blk} : ∀ (bs : List Nat) (K : List Blk → Prop), hideK top bs K → ∃ top1, K top1 ∧ top1.length = top.length ∧ (∀ i ∈ bs, i < top.length → top1[i]? = some .dead) ∧ ∀ i, i ∉ bs → top1[i]? = top[i]?
  | [], K, h => ⟨top, h, rfl, (fun i hi => by cases hi), (fun i _ => rfl)⟩
  | b :: bs, K, h => by
    obtain ⟨top1, h, hl, h1, h2⟩ := hideK_spec bs _ h
    obtain ⟨hlt, h⟩ := setK_spec.1 h
    refine ⟨_, h, by simp [hl], fun i hi hil => ?_, fun i hi => ?_⟩
    · by_cases hib : b = i
      · subst hib; simp [hlt]
      · rw [List.getElem?_set_ne hib]
        cases hi with
        | head => exact absurd rfl hib
        | tail _ hi => exact h1 i hi hil
    · have hib : b ≠ i := fun e => hi (e ▸ List.mem_cons_self)
      rw [List.getElem?_set_ne hib]
      exact h2 i (fun h => hi (List.mem_cons_of_mem _ h))

theorem inv_lent {m : M} {top : List Blk} {H : List (List Blk)} (hinv : Inv m top H) {bs : List Nat} (hbs : ∀ i ∈ bs, ∃ e sz xs, top[i]? = some (.row e sz xs)) {top1 : List Blk} (hl : top1.length = top.length) (h1 : ∀ i ∈ bs, i < top.length → top1[i]? = some .dead) (h2 : ∀ i, i ∉ bs → top1[i]? = top[i]?) :
    Inv (lentM m bs) [] (top1 :: H) := by
  have old : ∀ l i b, getB [] (top1 :: H) l i = some b → b.live = true → ∃ l', l = l' + 1 ∧ getB top H l' i = some b ∧ (l' = 0 → i ∉ bs) := by
    intro l i b hb hlive
    cases l with
    | zero => simp [getB] at hb
    | succ l =>
      refine ⟨l, rfl, ?_⟩
      cases l with
      | zero =>
        simp only [getB, List.getElem?_cons_zero, Option.bind_some] at hb
        by_cases hi : i ∈ bs
        · have hlt : i < top.length := by rw [← hl]; exact (List.getElem?_eq_some_iff.1 hb).1
          rw [h1 i hi hlt] at hb
          cases hb
          cases hlive
        · rw [h2 i hi] at hb
          exact ⟨hb, fun _ => hi⟩
      | succ l => exact ⟨by simpa [getB] using hb, fun h => by cases h⟩
  refine ⟨fun l i b hb => ?_, fun l i b l' i' b' v v' k hb hlb hb' hlb' hv hv' hk hk' => ?_, fun l i b v k hb hlb hv hk => ?_, fun k hk => hinv.lt k hk.1⟩
  · cases hlb : b.live with
    | false => cases b <;> simp [Blk.live] at hlb; trivial
    | true =>
      obtain ⟨l, rfl, hb2, hnb⟩ := old l i b hb hlb
      have hbo := hinv.blk l i b hb2
      cases b with
      | dead => trivial
      | box cs =>
        intro v hv
        obtain ⟨g, vs, e, rfl, hg, hs, hc⟩ := hbo v hv
        refine ⟨g, vs, e, rfl, hg, hs, fun j p u hp hu => ?_⟩
        have := hc j p u hp hu
        exact RP.keep (m := m.up l) (m' := (lentM m bs).up (l + 1)) ⟨fun l' i' v' h' => h', Nat.le_refl _, fun k hk => ⟨fun hu => hk.2 hu.1, rfl⟩⟩ this
      | row e sz xs =>
        intro v hv
        obtain ⟨h0, hx, flat, ho, hc⟩ := hbo v hv
        exact ⟨h0, hx, flat, ho, fun i x j y u hx hy hu => rd_lent (hc i x j y u hx hy hu)⟩
  · obtain ⟨l, rfl, hb2, _⟩ := old l i b hb hlb
    obtain ⟨l', rfl, hb2', _⟩ := old l' i' b' hb' hlb'
    obtain ⟨h1, h2⟩ := hinv.inj l i b l' i' b' v v' k hb2 hlb hb2' hlb' hv hv' hk hk'
    exact ⟨by rw [h1], h2⟩
  · obtain ⟨l, rfl, hb2, hnb⟩ := old l i b hb hlb
    refine ⟨hinv.own l i b v k hb2 hlb hv hk, ?_⟩
    rintro ⟨j, v', hj, hv', hk'⟩
    obtain ⟨e, sz, xs, hb3⟩ := hbs j hj
    obtain ⟨rfl, rfl⟩ := hinv.inj l i b 0 j _ v v' k hb2 hlb hb3 rfl hv hv' hk hk'
    exact hnb rfl hj

def joinM (m m2 : M) (t n : Nat) (bs : List Nat) : M :=
  ⟨m2.w, fun l i => match l with | 0 => if t ≤ i ∧ i < t + n then m2.ρ 0 (i - t) else m.ρ 0 i | l + 1 => m.ρ (l + 1) i, fun k => m2.U k ∨ Lent m bs k⟩

theorem rd_flat {w w' : World} {ok ok' : Nat → Prop} {x : DV} {v : Value} (hf : x.flat = true) (h : RD w ok x v) : RD w' ok' x v := by
  cases h with
  | bool b => exact .bool _
  | int k n => exact .int _ _
  | str s => exact .str _
  | sl sz xs A n c ad u hn hc hm hA hs hcell hr =>
    cases xs with
    | cons x xs => cases hf
    | nil => exact .sl sz [] A n c ad u hn hc hm hA hs (fun i x j y hx => by simp at hx) (fun i x j y hx => by simp at hx)

def AdoptSp (b n : Nat) (p : PV) (K : PV → Prop) : Prop :=
  ∃ q, K q ∧ ∀ (m m3 : M) v, (∀ i v, i < n → m.ρ 0 i = some v → m3.ρ 0 (b + i) = some v) → (p.flat = true ∨ ∀ x v, RD m.w m.ok x v → RD m3.w m3.ok x v) → RP m p v → RP m3 q v
def AdoptsSp (b n : Nat) (ps : List PV) (K : List PV → Prop) : Prop :=
  ∃ qs, K qs ∧ ∀ (m m3 : M), (∀ i v, i < n → m.ρ 0 i = some v → m3.ρ 0 (b + i) = some v) → (flats ps = true ∨ ∀ x v, RD m.w m.ok x v → RD m3.w m3.ok x v) →
    qs.length = ps.length ∧ ∀ (j : Nat) q v, qs[j]? = some q → (∀ p, ps[j]? = some p → RP m p v) → RP m3 q v
theorem adoptsF_spec {b n : Nat} {one : PV → (PV → Prop) → Prop} (ho : ∀ p K, one p K → AdoptSp b n p K) : ∀ (ps : List PV) (K : List PV → Prop), adoptsF one ps K → AdoptsSp b n ps K
  | [], K, h => ⟨_, h, fun m m3 _ _ => ⟨rfl, fun j q v hq => by simp at hq⟩⟩
  | p :: ps, K, h => by
    rw [adoptsF_cons] at h
    obtain ⟨q, h, hq⟩ := ho p _ h
    obtain ⟨qs, h, hqs⟩ := adoptsF_spec ho ps _ h
    refine ⟨_, h, fun m m3 hρ hf => ?_⟩
    have hf1 : p.flat = true ∨ ∀ x v, RD m.w m.ok x v → RD m3.w m3.ok x v := hf.imp (fun h => by simp [flats] at h; exact h.1) id
    have hf2 : flats ps = true ∨ ∀ x v, RD m.w m.ok x v → RD m3.w m3.ok x v := hf.imp (fun h => by simp [flats] at h; exact h.2) id
    obtain ⟨hl, hr⟩ := hqs m m3 hρ hf2
    refine ⟨by simp [hl], fun j q' v hq' hv => ?_⟩
    cases j with
    | zero => simp at hq'; subst hq'; exact hq m m3 v hρ hf1 (hv p rfl)
    | succ j => exact hr j q' v hq' (fun p0 h0 => hv p0 h0)
theorem adoptF_spec {b n : Nat} : ∀ (f : Nat) (p : PV) (K : PV → Prop), adoptF b n f p K → AdoptSp b n p K
  | 0, p, K, h => h.elim
  | f + 1, .d x, K, h => ⟨_, h, fun m m3 v _ hf hv => by
      cases hv with
      | d _ _ hx =>
        rcases hf with hf | hf
        · exact .d _ _ (rd_flat hf hx)
        · exact .d _ _ (hf _ _ hx)⟩
  | f + 1, .kb x, K, h => ⟨_, h, fun m m3 v _ hf hv => by cases hv; exact .kb _⟩
  | f + 1, .nils, K, h => ⟨_, h, fun m m3 v _ hf hv => by cases hv; exact .nils⟩
  | f + 1, .row 0 i k, K, h => by
    change ifK (Nat.blt i n) (K (.row 0 (b + i) k)) at h
    simp only [ifK] at h
    split at h
    case h_2 => exact h.elim
    rename_i hlt
    have hlt : i < n := by simpa [Nat.blt_eq] using hlt
    exact ⟨_, h, fun m m3 v hρ _ hv => by cases hv with | row _ _ _ N c A e1 e2 e3 => exact .row _ _ _ _ _ _ (hρ i _ hlt e1) e2 e3⟩
  | f + 1, .row (l + 1) i k, K, h => h.elim
  | f + 1, .agg cs, K, h => by
    change adoptsF (adoptF b n f) cs (fun cs' => K (.agg cs')) at h
    obtain ⟨qs, h, hq⟩ := adoptsF_spec (adoptF_spec f) cs _ h
    refine ⟨_, h, fun m m3 v hρ hf hv => ?_⟩
    cases hv with
    | agg _ vs e r =>
      obtain ⟨hl, hr⟩ := hq m m3 hρ (hf.imp (fun h => h) id)
      exact .agg _ _ (hl.trans e) (fun j p v hp hv => hr j p v hp (fun p0 h0 => r j p0 v h0 hv))
  | f + 1, .tuple cs, K, h => by
    change adoptsF (adoptF b n f) cs (fun cs' => K (.tuple cs')) at h
    obtain ⟨qs, h, hq⟩ := adoptsF_spec (adoptF_spec f) cs _ h
    refine ⟨_, h, fun m m3 v hρ hf hv => ?_⟩
    cases hv with
    | tuple _ vs e r =>
      obtain ⟨hl, hr⟩ := hq m m3 hρ (hf.imp (fun h => h) id)
      exact .tuple _ _ (hl.trans e) (fun j p v hp hv => hr j p v hp (fun p0 h0 => r j p0 v h0 hv))
  | f + 1, .any, K, h => h.elim
  | f + 1, .ub, K, h => h.elim
  | f + 1, .ptr l i o, K, h => h.elim
  | f + 1, .rptr l i sz e j, K, h => h.elim
  | f + 1, .iptr cs, K, h => h.elim
  | f + 1, .func fn fs cs, K, h => h.elim
theorem adoptK_spec {b n : Nat} (p : PV) (K : PV → Prop) (h : adoptK b n p K) : AdoptSp b n p K := adoptF_spec 8 p K h

theorem blksOf_eq : ∀ (N : List RowB), blksOf N = N.map RowB.blk
  | [] => rfl
  | r :: rs => by rw [List.map_cons, ← blksOf_eq rs]; rfl

theorem callK_spec {C : Cx} {H : List (List Blk)} {top : List Blk} {f : Nat} {args : List PV} {K : PV → List Blk → Prop} (h : callK C H top f args K) :
    ∃ pv top', K pv top' ∧ top <+: top' ∧ ∀ (m : M) (vs : Array Value), Inv m top H → args.length = vs.size → (∀ (j : Nat) p v, args[j]? = some p → vs[j]? = some v → RP m p v) → (∀ j, top.length ≤ j → j < top'.length → m.ρ 0 j = none) →
      Calls C.P f vs m.w fun e w' => ∃ v m', e = .returned v ∧ m'.w = w' ∧ Grow m m' ∧ (∀ l j, ¬ (l = 0 ∧ top.length ≤ j ∧ j < top'.length) → m'.ρ l j = m.ρ l j) ∧ (∀ j u k, top.length ≤ j → j < top'.length → m'.ρ 0 j = some u → blkOf u = some k → m.w.heap.size ≤ k) ∧ Inv m' top' H ∧ RP m' pv v := by
  obtain ⟨args', bs, h, hin, hrows, hargs⟩ := argsK_spec args [] _ h
  obtain ⟨top1, h, hl1, hd1, hs1⟩ := hideK_spec bs _ h
  obtain ⟨r, N, hcall, hlent, h⟩ := h
  rw [lenK_spec, lenK_spec] at h
  obtain ⟨pv, h, hpv⟩ := adoptK_spec r _ h
  rw [appK_spec] at h
  refine ⟨pv, _, h, List.prefix_append _ _, fun m vs hinv hlen hrel hfree => ?_⟩
  have hbs : ∀ i ∈ bs, ∃ e sz xs, top[i]? = some (.row e sz xs) := fun i hi => (hrows i hi).resolve_left (by simp)
  obtain ⟨hal, har⟩ := hargs m H bs (fun _ h => h) hinv
  have hinv2 := inv_lent hinv hbs hl1 hd1 hs1
  unfold CallEq at hcall
  refine (hcall (lentM m bs) vs hinv2 (fun _ => rfl) (hal.trans hlen) (fun j p v hp hv => har j p v hp (fun p0 h0 => hrel j p0 v h0 hv))).mono ?_
  rintro e w' ⟨v, m2, rfl, rfl, hg, hup, hfresh, hi2, hr⟩
  have hNl : (blksOf N).length = N.length := by rw [blksOf_eq]; simp
  rw [hNl] at hpv
  have htl : (top ++ blksOf N).length = top.length + N.length := by rw [List.length_append, hNl]
  have hsz : m.w.heap.size ≤ m2.w.heap.size := hg.size
  have lentU : ∀ k, Lent m bs k → m.U k ∧ k < m.w.heap.size := by
    rintro k ⟨i, v, hi, hv, hk⟩
    obtain ⟨e, sz, xs, hb⟩ := hbs i hi
    have := hinv.own 0 i _ v k hb rfl hv hk
    exact ⟨this, hinv.lt k this⟩
  have hU : ∀ k, k < m.w.heap.size → ((m2.U k ∨ Lent m bs k) ↔ m.U k) := by
    intro k hk
    have h1 := hg.U k hk
    simp only [lentM] at h1
    by_cases hL : Lent m bs k
    · exact ⟨fun _ => (lentU k hL).1, fun _ => .inr hL⟩
    · exact ⟨fun h => by rcases h with h | h; exact (h1.1 h).1; exact absurd h hL, fun h => .inl (h1.2 ⟨h, hL⟩)⟩
  have hG : Grow m (joinM m m2 top.length N.length bs) := by
    refine ⟨hg.os, hg.tape, hg.output, hsz, hg.heap, fun l i v hv => ?_, fun k hk => hU k hk⟩
    cases l with
    | succ l => exact hv
    | zero =>
      simp only [joinM]
      rw [if_neg]
      · exact hv
      · rintro ⟨h1, h2⟩
        rw [hfree i h1 (by rw [htl]; exact h2)] at hv
        cases hv
  have hold : ∀ l i, ¬ (l = 0 ∧ top.length ≤ i ∧ i < top.length + N.length) → (joinM m m2 top.length N.length bs).ρ l i = m.ρ l i := by
    intro l i hn
    cases l with
    | succ l => rfl
    | zero =>
      simp only [joinM]
      rw [if_neg (fun h => hn ⟨rfl, h⟩)]
  have hnew : ∀ i, i < N.length → (joinM m m2 top.length N.length bs).ρ 0 (top.length + i) = m2.ρ 0 i := by
    intro i hi
    simp only [joinM]
    rw [if_pos ⟨by omega, by omega⟩, show top.length + i - top.length = i by omega]
  have getOld : ∀ l i b, getB (top ++ blksOf N) H l i = some b → (getB top H l i = some b ∧ ¬ (l = 0 ∧ top.length ≤ i ∧ i < top.length + N.length)) ∨ (l = 0 ∧ ∃ j r, i = top.length + j ∧ j < N.length ∧ N[j]? = some r ∧ b = r.blk) := by
    intro l i b hb
    cases l with
    | succ l => exact .inl ⟨hb, fun h => by cases h.1⟩
    | zero =>
      simp only [getB] at hb ⊢
      rcases Nat.lt_or_ge i top.length with hi | hi
      · rw [List.getElem?_append_left hi] at hb
        exact .inl ⟨hb, fun h => by omega⟩
      · rw [List.getElem?_append_right hi, blksOf_eq, List.getElem?_map] at hb
        obtain ⟨r, hr, rfl⟩ := Option.map_eq_some_iff.1 hb
        exact .inr ⟨trivial, i - top.length, r, by omega, (List.getElem?_eq_some_iff.1 hr).1, hr, rfl⟩
  have hplain : bs = [] → ∀ x v, RD m2.w m2.ok x v → RD (joinM m m2 top.length N.length bs).w (joinM m m2 top.length N.length bs).ok x v := by
    rintro rfl x v hx
    refine hx.mono fun k hk => ⟨⟨hk.1, ?_⟩, rfl⟩
    rintro (h | ⟨i, _, hi, _⟩)
    · exact hk.2 h
    · cases hi
  have hflat : bs ≠ [] → r.flat = true ∧ FlatN N := by
    intro hne
    cases hbs' : bs with
    | nil => exact absurd hbs' hne
    | cons b bs' => rw [hbs'] at hlent; exact hlent
  -- a new row's block is none that was
  have newNot : ∀ j r v k, N[j]? = some r → m2.ρ 0 j = some v → blkOf v = some k → m2.U k ∧ ¬ Lent m bs k := by
    intro j r v k hr hv hk
    have hb : getB (N.map RowB.blk) (top1 :: H) 0 j = some r.blk := by simp [getB, hr]
    have hu := hi2.own 0 j _ v k hb rfl hv hk
    refine ⟨hu, fun hL => ?_⟩
    have := (hg.U k (lentU k hL).2).1 hu
    exact this.2 hL
  refine ⟨v, joinM m m2 top.length N.length bs, rfl, rfl, hG, fun l j hj => hold l j (by rwa [htl] at hj), (fun j u k h1 h2 hu hk => hfresh (j - top.length) u k (by rw [htl] at h2; rw [← hnew (j - top.length) (by omega), show top.length + (j - top.length) = j by omega]; exact hu) hk), ⟨fun l i b hb => ?_, fun l i b l' i' b' v1 v2 k hb hlb hb' hlb' hv1 hv2 hk1 hk2 => ?_, fun l i b v1 k hb hlb hv1 hk => ?_, fun k hk => ?_⟩, hpv m2 _ v (fun i v hi hv => by rw [hnew i hi]; exact hv) (by
      by_cases hne : bs = []
      · exact .inr (hplain hne)
      · exact .inl (hflat hne).1) hr⟩
  · rcases getOld l i b hb with ⟨hb1, hn⟩ | ⟨rfl, j, r', rfl, hj, hr', rfl⟩
    · exact (hinv.blk l i b hb1).keep hG.keep (hold l i hn) (fun u k hl hu hk => hG.heap k (hinv.lt k (hinv.own l i b u k hb1 hl hu hk)))
    · intro u hu
      rw [hnew j hj] at hu
      obtain ⟨h0, hx, flat, ho, hc⟩ := hi2.blk 0 j r'.blk (by simp [getB, hr']) u hu
      refine ⟨h0, hx, flat, ho, fun i x j' y u' hx' hy hu' => ?_⟩
      have := hc i x j' y u' hx' hy hu'
      by_cases hne : bs = []
      · exact hplain hne _ _ this
      · exact rd_flat ((hflat hne).2 r' (List.mem_of_getElem? hr') x (List.mem_of_getElem? hx') y (List.mem_of_getElem? hy)) this
  · rcases getOld l i b hb with ⟨hb1, hn⟩ | ⟨rfl, j, r', rfl, hj, hr', rfl⟩ <;> rcases getOld l' i' b' hb' with ⟨hb1', hn'⟩ | ⟨rfl, j', r'', rfl, hj', hr'', rfl⟩
    · rw [hold l i hn] at hv1; rw [hold l' i' hn'] at hv2
      exact hinv.inj l i b l' i' b' v1 v2 k hb1 hlb hb1' hlb' hv1 hv2 hk1 hk2
    · exfalso
      rw [hold l i hn] at hv1; rw [hnew j' hj'] at hv2
      obtain ⟨hu2, hnl⟩ := newNot j' r'' v2 k hr'' hv2 hk2
      have hlb2 : getB (N.map RowB.blk) (top1 :: H) (l + 1) i = some b ∨ Lent m bs k := by
        cases l with
        | succ l => exact .inl (by simpa [getB] using hb1)
        | zero =>
          by_cases hi : i ∈ bs
          · exact .inr ⟨i, v1, hi, hv1, hk1⟩
          · exact .inl (by simp only [getB, List.getElem?_cons_zero, Option.bind_some]; rw [hs1 i hi]; exact hb1)
      rcases hlb2 with hb2 | hL
      · have := hi2.inj (l + 1) i b 0 j' r''.blk v1 v2 k hb2 hlb (by simp [getB, hr'']) rfl (by rw [hup l i]; exact hv1) hv2 hk1 hk2
        cases this.1
      · exact hnl hL
    · exfalso
      rw [hold l' i' hn'] at hv2; rw [hnew j hj] at hv1
      obtain ⟨hu2, hnl⟩ := newNot j r' v1 k hr' hv1 hk1
      have hlb2 : getB (N.map RowB.blk) (top1 :: H) (l' + 1) i' = some b' ∨ Lent m bs k := by
        cases l' with
        | succ l' => exact .inl (by simpa [getB] using hb1')
        | zero =>
          by_cases hi : i' ∈ bs
          · exact .inr ⟨i', v2, hi, hv2, hk2⟩
          · exact .inl (by simp only [getB, List.getElem?_cons_zero, Option.bind_some]; rw [hs1 i' hi]; exact hb1')
      rcases hlb2 with hb2 | hL
      · have := hi2.inj (l' + 1) i' b' 0 j r'.blk v2 v1 k hb2 hlb' (by simp [getB, hr']) rfl (by rw [hup l' i']; exact hv2) hv1 hk2 hk1
        cases this.1
      · exact hnl hL
    · rw [hnew j hj] at hv1; rw [hnew j' hj'] at hv2
      obtain ⟨_, h2⟩ := hi2.inj 0 j r'.blk 0 j' r''.blk v1 v2 k (by simp [getB, hr']) rfl (by simp [getB, hr'']) rfl hv1 hv2 hk1 hk2
      exact ⟨rfl, by rw [h2]⟩
  · rcases getOld l i b hb with ⟨hb1, hn⟩ | ⟨rfl, j, r', rfl, hj, hr', rfl⟩
    · rw [hold l i hn] at hv1
      have hu := hinv.own l i b v1 k hb1 hlb hv1 hk
      exact (hU k (hinv.lt k hu)).2 hu
    · rw [hnew j hj] at hv1
      exact .inl (newNot j r' v1 k hr' hv1 hk).1
  · rcases hk with hk | hk
    · exact hi2.lt k hk
    · exact Nat.lt_of_lt_of_le (lentU k hk).2 hsz
end Go.Proofs.Ve
