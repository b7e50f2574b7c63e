/- Code, loops, a function's body: what the value machine says of them is so. -/
import Derived.Test.YtpmhiiembbfbeaaV18
import Derived.LoopN
set_option linter.all false
namespace Go.Proofs.Ve
open Go

/-- other names: s says whose each one is; from nt on: a row that is nil -/
def M.ren (m : M) (s : List Nat) (nt : Nat) : M := ⟨m.w, fun l i => match l with | 0 => (s[i]?).bind fun j => if j < nt then m.ρ 0 j else some (.slice none 0 0) | l + 1 => m.ρ (l + 1) i, m.U⟩
theorem ren_up (m : M) (s : List Nat) (nt l : Nat) : (m.ren s nt).up (l + 1) = m.up (l + 1) := rfl
theorem ren_ok (m : M) (s : List Nat) (nt : Nat) : (m.ren s nt).ok = m.ok := rfl

theorem rens_get (s : List Nat) : ∀ (cs : List PV) (j : Nat), (rens s cs)[j]? = (cs[j]?).map (ren s)
  | [], j => by simp [rens]
  | c :: cs, 0 => by simp [rens]
  | c :: cs, j + 1 => by simp [rens, rens_get s cs j]
theorem rens_len (s : List Nat) : ∀ (cs : List PV), (rens s cs).length = cs.length
  | [] => rfl
  | c :: cs => by simp [rens, rens_len s cs]
theorem insN_get {n : Nat} : ∀ {cs : List PV} {j : Nat} {q : PV}, insN n cs = true → cs[j]? = some q → inN n q = true
  | [], j, q, _, h => by simp at h
  | c :: cs, 0, q, h, hq => by
    simp only [insN, Bool.and_eq_true] at h
    simp at hq; subst hq; exact h.1
  | c :: cs, j + 1, q, h, hq => by
    simp only [insN, Bool.and_eq_true] at h
    exact insN_get h.2 (by simpa using hq)
theorem ren_ρ {m : M} {s : List Nat} {nt i : Nat} {v : Value} (hf : ∀ j, nt ≤ j → m.ρ 0 j = none) (hi : i < s.length) (h : m.ρ 0 (s.getD i 0) = some v) : (m.ren s nt).ρ 0 i = some v := by
  have e : s.getD i 0 = s[i] := by simp [List.getD, List.getElem?_eq_getElem hi]
  rw [e] at h
  have hlt : s[i] < nt := by
    rcases Nat.lt_or_ge s[i] nt with h1 | h1
    · exact h1
    · rw [hf _ h1] at h; cases h
  simp only [M.ren, List.getElem?_eq_getElem hi, Option.bind_some]
  rw [if_pos hlt]; exact h

inductive RenI (s : List Nat) : PV → PV → Prop
  | any : RenI s .any .any
  | kb (b : Bool) : RenI s (.kb b) (.kb b)
  | ub : RenI s .ub .ub
  | d (x : DV) : RenI s (.d x) (.d x)
  | nils : RenI s .nils .nils
  | row0 (i n : Nat) : RenI s (.row 0 i n) (.row 0 (s.getD i 0) n)
  | rowS (l i n : Nat) : RenI s (.row (l + 1) i n) (.row (l + 1) i n)
  | ptr0 (i o : Nat) : RenI s (.ptr 0 i o) (.ptr 0 (s.getD i 0) o)
  | ptrS (l i o : Nat) : RenI s (.ptr (l + 1) i o) (.ptr (l + 1) i o)
  | rptr0 (i sz e j : Nat) : RenI s (.rptr 0 i sz e j) (.rptr 0 (s.getD i 0) sz e j)
  | rptrS (l i sz e j : Nat) : RenI s (.rptr (l + 1) i sz e j) (.rptr (l + 1) i sz e j)
  | iptr (cs : List DV) : RenI s (.iptr cs) (.iptr cs)
  | func (fn : Fn) (fs cs : List PV) : RenI s (.func fn fs cs) (.func fn (rens s fs) (rens s cs))
  | agg (cs : List PV) : RenI s (.agg cs) (.agg (rens s cs))
  | tuple (cs : List PV) : RenI s (.tuple cs) (.tuple (rens s cs))
theorem ren_i (s : List Nat) (q : PV) : RenI s q (ren s q) := by
  cases q with
  | any => exact .any
  | kb b => exact .kb b
  | ub => exact .ub
  | d x => exact .d x
  | nils => exact .nils
  | row l i n => cases l with | zero => exact .row0 i n | succ l => exact .rowS l i n
  | ptr l i o => cases l with | zero => exact .ptr0 i o | succ l => exact .ptrS l i o
  | rptr l i sz e j => cases l with | zero => exact .rptr0 i sz e j | succ l => exact .rptrS l i sz e j
  | iptr cs => exact .iptr cs
  | func fn fs cs => exact .func fn fs cs
  | agg cs => exact .agg cs
  | tuple cs => exact .tuple cs
theorem ren_rp {m : M} {s : List Nat} {nt : Nat} {p : PV} {v : Value} (hf : ∀ j, nt ≤ j → m.ρ 0 j = none) (h : RP m p v) : ∀ q, p = ren s q → inN s.length q = true → RP (m.ren s nt) q v := by
  induction h with
  | any v => intro q hq hn; have := ren_i s q; rw [← hq] at this; cases this; exact .any _
  | kb b => intro q hq hn; have := ren_i s q; rw [← hq] at this; cases this; exact .kb _
  | ub b => intro q hq hn; have := ren_i s q; rw [← hq] at this; cases this; exact .ub _
  | d x v hx => intro q hq hn; have := ren_i s q; rw [← hq] at this; cases this; exact .d _ _ hx
  | nils => intro q hq hn; have := ren_i s q; rw [← hq] at this; cases this; exact .nils
  | row l i n N c A hρ hn hc =>
    intro q hq hin
    have := ren_i s q
    rw [← hq] at this
    cases this with
    | row0 i' => exact .row _ _ _ _ _ _ (ren_ρ hf (by simpa only [inN, Nat.blt_eq] using hin) hρ) hn hc
    | rowS l => exact .row _ _ _ _ _ _ hρ hn hc
  | ptr l i o g hρ =>
    intro q hq hin
    have := ren_i s q
    rw [← hq] at this
    cases this with
    | ptr0 i' => exact .ptr _ _ _ _ (ren_ρ hf (by simpa only [inN, Nat.blt_eq] using hin) hρ)
    | ptrS l => exact .ptr _ _ _ _ hρ
  | rptr l i sz e j g N c hρ =>
    intro q hq hin
    have := ren_i s q
    rw [← hq] at this
    cases this with
    | rptr0 i' => exact .rptr _ _ _ _ _ _ _ _ (ren_ρ hf (by simpa only [inN, Nat.blt_eq] using hin) hρ)
    | rptrS l => exact .rptr _ _ _ _ _ _ _ _ hρ
  | iptr cs ad u hc hr => intro q hq hn; have := ren_i s q; rw [← hq] at this; cases this; exact .iptr _ ad u hc hr
  | func fn fs cs fv cv h1 h2 h3 h4 ih1 ih2 =>
    intro q hq hin
    have := ren_i s q
    rw [← hq] at this
    cases this with
    | func fn fs' cs' =>
      simp only [inN, Bool.and_eq_true] at hin
      exact .func _ _ _ _ _ (by rw [← h1, rens_len]) (by rw [← h2, rens_len]) (fun j p v hp hv => ih1 j (ren s p) v (by rw [rens_get, hp]; rfl) hv p rfl (insN_get hin.1 hp)) (fun j p v hp hv => ih2 j (ren s p) v (by rw [rens_get, hp]; rfl) hv p rfl (insN_get hin.2 hp))
  | agg cs vs h1 h2 ih =>
    intro q hq hin
    have := ren_i s q
    rw [← hq] at this
    cases this with
    | agg cs' => exact .agg _ _ (by rw [← h1, rens_len]) (fun j p v hp hv => ih j (ren s p) v (by rw [rens_get, hp]; rfl) hv p rfl (insN_get (by simpa only [inN] using hin) hp))
  | tuple cs vs h1 h2 ih =>
    intro q hq hin
    have := ren_i s q
    rw [← hq] at this
    cases this with
    | tuple cs' => exact .tuple _ _ (by rw [← h1, rens_len]) (fun j p v hp hv => ih j (ren s p) v (by rw [rens_get, hp]; rfl) hv p rfl (insN_get (by simpa only [inN] using hin) hp))

theorem rp_refO {m : M} {s : List Nat} {nt : Nat} {p q : PV} {v : Value} (hf : ∀ j, nt ≤ j → m.ρ 0 j = none) (hr : refO s s.length nt p q) (h : RP m p v) : RP (m.ren s nt) q v := by
  unfold refO at hr
  split at hr
  · exact .any _
  · split at hr
    · cases h; exact .ub _
    · cases h; exact .ub _
    · cases h with | d _ _ hx => cases hx; exact .ub _
    · exact hr.elim
  · subst hr; cases h; exact .kb _
  · subst hr; cases h; exact .nils
  · split at hr
    · subst hr; cases h with | d _ _ hx => exact .d _ _ hx
    · subst hr; cases h; exact .d _ _ (.bool _)
    · subst hr; cases h; exact .d _ _ (.sl 0 [] none 0 0 ⟨0, 0, none⟩ (fun _ => undef) rfl (Nat.le_refl _) (by omega) (by omega) (by simp) (by simp) (by simp))
    · exact hr.elim
  · rename_i l i k
    split at hr
    · split at hr
      · simp only [Bool.and_eq_true] at hr
        obtain ⟨h1, h2, h3⟩ := hr
        obtain rfl := Nat.eq_of_beq_eq_true h1
        have h2 : i < s.length := by simpa [Nat.blt_eq] using h2
        have h3 : nt ≤ s.getD i 0 := Nat.le_of_ble_eq_true h3
        cases h
        refine .row 0 i 0 0 0 none ?_ (Nat.le_refl _) (Nat.le_refl _)
        simp only [M.ren, List.getElem?_eq_getElem h2, Option.bind_some]
        rw [if_neg]
        simp only [List.getD, List.getElem?_eq_getElem h2, Option.getD_some] at h3
        omega
      · exact hr.elim
    · exact ren_rp hf h _ hr.2 hr.1
  · exact ren_rp hf h _ hr.2 hr.1
theorem refs_get {one : PV → PV → Prop} : ∀ {tm tm' : List PV}, refs one tm tm' → tm.length = tm'.length ∧ ∀ (j : Nat) q, tm'[j]? = some q → ∃ p, tm[j]? = some p ∧ one p q
  | [], [], _ => ⟨rfl, fun j q h => by simp at h⟩
  | [], _ :: _, h => h.elim
  | _ :: _, [], h => h.elim
  | p :: ps, q :: qs, h => by
    rw [refs_cons] at h
    obtain ⟨h1, h2⟩ := refs_get h.2
    refine ⟨by simp [h1], fun j r hr => ?_⟩
    cases j with
    | zero => simp at hr; subst hr; exact ⟨p, rfl, h.1⟩
    | succ j => exact h2 j r (by simpa using hr)
theorem rp_refF {m : M} {s : List Nat} {nt : Nat} (hf : ∀ j, nt ≤ j → m.ρ 0 j = none) : ∀ (k : Nat) {p q : PV} {v : Value}, refF s s.length nt k p q → RP m p v → RP (m.ren s nt) q v
  | 0, p, q, v, hr, h => rp_refO hf hr h
  | k + 1, p, q, v, hr, h => by
    change refStep s s.length nt (refF s s.length nt k) p q at hr
    unfold refStep at hr
    split at hr
    · split at hr
      · obtain ⟨hl, hg⟩ := refs_get hr
        cases h with
        | tuple _ vs h1 h2 =>
          refine .tuple _ _ (hl.symm.trans h1) (fun j q v hq hv => ?_)
          obtain ⟨p, hp, hpq⟩ := hg j q hq
          exact rp_refF hf k hpq (h2 j p v hp hv)
      · exact hr.elim
    · split at hr
      · obtain ⟨hl, hg⟩ := refs_get hr
        cases h with
        | agg _ vs h1 h2 =>
          refine .agg _ _ (hl.symm.trans h1) (fun j q v hq hv => ?_)
          obtain ⟨p, hp, hpq⟩ := hg j q hq
          exact rp_refF hf k hpq (h2 j p v hp hv)
      · exact hr.elim
    · exact rp_refO hf hr h
theorem rp_ref {m : M} {s : List Nat} {nt : Nat} {p q : PV} {v : Value} (hf : ∀ j, nt ≤ j → m.ρ 0 j = none) (hr : refP s s.length nt p q) (h : RP m p v) : RP (m.ren s nt) q v := rp_refF hf 2 hr h
theorem refT_get {s : List Nat} {n nt : Nat} : ∀ {tm tm' : List PV}, refT s n nt tm tm' → tm.length = tm'.length ∧ ∀ (j : Nat) q, tm'[j]? = some q → ∃ p, tm[j]? = some p ∧ refP s n nt p q
  | [], [], _ => ⟨rfl, fun j q h => by simp at h⟩
  | [], _ :: _, h => h.elim
  | _ :: _, [], h => h.elim
  | p :: ps, q :: qs, h => by
    obtain ⟨h1, h2⟩ := refT_get h.2
    refine ⟨by simp [h1], fun j r hr => ?_⟩
    cases j with
    | zero => simp at hr; subst hr; exact ⟨p, rfl, h.1⟩
    | succ j => exact h2 j r (by simpa using hr)
theorem refB_get {s : List Nat} {n : Nat} {top : List Blk} : ∀ {js : List Nat} {bs : List Blk}, refB s n top js bs → js.length = bs.length ∧ ∀ (i : Nat) b, bs[i]? = some b → ∃ j, js[i]? = some j ∧ (match b with
      | .dead => True
      | .row e sz xs => top[j]? = some (.row e sz xs) ∨ (top.length ≤ j ∧ xs = [] ∧ 0 < sz)
      | .box cs => ∃ cs', top[j]? = some (.box cs') ∧ refT s n top.length cs' cs)
  | [], [], _ => ⟨rfl, fun i b h => by simp at h⟩
  | [], _ :: _, h => h.elim
  | _ :: _, [], h => h.elim
  | j :: js, b :: bs, h => by
    obtain ⟨h1, h2⟩ := refB_get h.2
    refine ⟨by simp [h1], fun i b' hb => ?_⟩
    cases i with
    | zero =>
      simp at hb
      subst hb
      refine ⟨j, rfl, ?_⟩
      have := h.1
      cases b with
      | dead => trivial
      | row e sz xs =>
        simp only [refOne] at this
        dsimp only
        split at this
        · rename_i h3; obtain ⟨rfl, rfl, rfl⟩ := this; exact .inl h3
        · rename_i h3; exact .inr ⟨List.getElem?_eq_none_iff.1 h3, this.1, by simpa [Nat.blt_eq] using this.2⟩
        · exact this.elim
      | box cs =>
        simp only [refOne] at this
        dsimp only
        split at this
        · rename_i h3; exact ⟨_, h3, this⟩
        · exact this.elim
    | succ i => exact h2 i b' (by simpa using hb)
theorem nodup_get {s : List Nat} (h : nodupB s = true) : ∀ (i j : Nat) x, s[i]? = some x → s[j]? = some x → i = j := by
  induction s with
  | nil => intro i j x hi; simp at hi
  | cons y s ih =>
    simp only [nodupB, Bool.and_eq_true, Bool.not_eq_true'] at h
    have hno : y ∉ s := fun hy => by
      have := h.1
      rw [List.any_eq_false] at this
      exact this y hy (by simp)
    intro i j x hi hj
    cases i with
    | zero =>
      simp at hi; subst hi
      cases j with
      | zero => rfl
      | succ j => exact absurd (List.mem_of_getElem? (by simpa using hj)) hno
    | succ i =>
      cases j with
      | zero => simp at hj; subst hj; exact absurd (List.mem_of_getElem? (by simpa using hi)) hno
      | succ j => rw [ih h.2 i j x (by simpa using hi) (by simpa using hj)]

theorem inv_ren {m : M} {s : List Nat} {top top' : List Blk} {H : List (List Blk)} (hi : Inv m top H) (hf : ∀ j, top.length ≤ j → m.ρ 0 j = none) (hs : nodupB s = true) (hb : refB s s.length top s top') : Inv (m.ren s top.length) top' H := by
  obtain ⟨hlen, hget⟩ := refB_get hb
  have get0 : ∀ i j v, s[i]? = some j → (m.ren s top.length).ρ 0 i = some v → (m.ρ 0 j = some v ∧ j < top.length) ∨ (top.length ≤ j ∧ v = .slice none 0 0) := by
    intro i j v hj hv
    simp only [M.ren, hj, Option.bind_some] at hv
    split at hv
    · exact .inl ⟨hv, by assumption⟩
    · cases hv; exact .inr ⟨by omega, rfl⟩
  have old : ∀ l i b v k, getB top' H l i = some b → b.live = true → (m.ren s top.length).ρ l i = some v → blkOf v = some k → ∃ j b', getB top H l j = some b' ∧ b'.live = true ∧ m.ρ l j = some v ∧ (l = 0 → s[i]? = some j) ∧ (l ≠ 0 → i = j) := by
    intro l i b v k h1 h2 h3 hk
    cases l with
    | succ l => exact ⟨i, b, h1, h2, h3, (fun h => by cases h), fun _ => rfl⟩
    | zero =>
      obtain ⟨j, hj, hm⟩ := hget i b h1
      rcases get0 i j v hj h3 with ⟨h3, hlt⟩ | ⟨_, rfl⟩
      · cases b with
        | dead => cases h2
        | row e sz xs =>
          rcases hm with hm | ⟨hm, _⟩
          · exact ⟨j, _, hm, rfl, h3, fun _ => hj, fun h => absurd rfl h⟩
          · omega
        | box cs => obtain ⟨cs', h4, _⟩ := hm; exact ⟨j, _, h4, rfl, h3, fun _ => hj, fun h => absurd rfl h⟩
      · cases hk
  refine ⟨fun l i b h1 => ?_, fun l i b l' i' b' v v' k h1 h2 h3 h4 h5 h6 h7 h8 => ?_, fun l i b v k h1 h2 h3 h4 => ?_, hi.lt⟩
  · cases l with
    | succ l =>
      have := hi.blk (l + 1) i b h1
      cases b with
      | dead => trivial
      | row e sz xs => exact this
      | box cs => exact this
    | zero =>
      obtain ⟨j, hj, hm⟩ := hget i b h1
      cases b with
      | dead => trivial
      | row e sz xs =>
        intro v hv
        rcases hm with hm | ⟨hm, rfl, hsz⟩
        · rcases get0 i j v hj hv with ⟨hv, _⟩ | ⟨hge, _⟩
          · exact hi.blk 0 j _ hm v hv
          · have := (List.getElem?_eq_some_iff.1 hm).1; omega
        · rcases get0 i j v hj hv with ⟨_, hlt⟩ | ⟨_, rfl⟩
          · omega
          · exact ⟨hsz, (fun x hx => by cases hx), [], ⟨by simp, .inl ⟨rfl, rfl⟩⟩, (fun i x j y u hx => by simp at hx)⟩
      | box cs =>
        obtain ⟨cs', h4, h5⟩ := hm
        intro v hv
        rcases get0 i j v hj hv with ⟨hv, _⟩ | ⟨hge, _⟩
        · obtain ⟨g, vs, e, h6, h7, h8, h9⟩ := hi.blk 0 j _ h4 v hv
          obtain ⟨hl, hg⟩ := refT_get h5
          refine ⟨g, vs, e, h6, h7, by rw [h8, hl], fun k q u hq hu => ?_⟩
          obtain ⟨p, hp, hr⟩ := hg k q hq
          exact rp_ref hf hr (h9 k p u hp hu)
        · have := (List.getElem?_eq_some_iff.1 h4).1; omega
  · obtain ⟨j, c, a1, a2, a3, a4, a5⟩ := old l i b v k h1 h2 h5 h7
    obtain ⟨j', c', b1, b2, b3, b4, b5⟩ := old l' i' b' v' k h3 h4 h6 h8
    obtain ⟨rfl, rfl⟩ := hi.inj l j c l' j' c' v v' k a1 a2 b1 b2 a3 b3 h7 h8
    refine ⟨rfl, ?_⟩
    by_cases hl : l = 0
    · exact nodup_get hs i i' j (a4 hl) (b4 hl)
    · rw [a5 hl, b5 hl]
  · obtain ⟨j, c, a1, a2, a3, _⟩ := old l i b v k h1 h2 h3 h4
    exact hi.own l j c v k a1 a2 a3 h4

theorem since_ren {m0 : M0} {m : M} (t : Since m0 m) (s : List Nat) (nt : Nat) : Since m0 (m.ren s nt) := by
  refine ⟨t.os, t.tape, t.output, t.size, t.heap, fun l i => t.up l i, t.U, fun j u k hu hk => ?_⟩
  simp only [M.ren] at hu
  obtain ⟨i, _, hu⟩ := Option.bind_eq_some_iff.1 hu
  split at hu
  · exact t.fresh i u k hu hk
  · cases hu; cases hk
theorem ren_free {m : M} {s : List Nat} {nt n : Nat} (h : s.length = n) : ∀ j, n ≤ j → (m.ren s nt).ρ 0 j = none := fun j hj => by
  simp [M.ren, List.getElem?_eq_none (show s.length ≤ j by omega)]
theorem St.ref {H : List (List Blk)} {m0 : M0} {m : M} {a : Act} {tm tm' : List PV} {top top' : List Blk} (h : St H m0 m a tm top) {s : List Nat} (hr : Ref s tm top tm' top') : St H m0 (m.ren s top.length) a tm' top' := by
  obtain ⟨h1, h2, h3⟩ := hr
  obtain ⟨hl, hg⟩ := refT_get h2
  obtain ⟨hlen, _⟩ := refB_get h3
  refine ⟨inv_ren h.inv h.free h1 h3, by rw [h.size, hl], fun j q v hq hv => ?_, h.defers, ren_free hlen, since_ren h.since s _⟩
  obtain ⟨p, hp, hr⟩ := hg j q hq
  exact rp_ref h.free hr (h.rel j p v hp hv)
end Go.Proofs.Ve
