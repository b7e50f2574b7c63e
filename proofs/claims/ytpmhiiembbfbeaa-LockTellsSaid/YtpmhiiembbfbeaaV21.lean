/- New rows of a call, seen as plain data from then on. -/
import Derived.Test.YtpmhiiembbfbeaaV20
set_option linter.all false
namespace Go.Proofs.Ve
open Go

def fz (N : List RowB) (k : Nat) : PV → PV :=
  Nat.rec (motive := fun _ => PV → PV) (fun _ => .any) (fun _ ih p => match p with
    | .row 0 i n => (match N[i]? with | some r => .d (.sl (r.xs.take n)) | none => .any)
    | .agg cs => .agg (cs.map ih)
    | .tuple cs => .tuple (cs.map ih)
    | .kb b => .kb b
    | .ub => .ub
    | .d x => .d x
    | .nils => .nils
    | .iptr cs => .iptr cs
    | _ => .any) k
def froM (m : M) (n : Nat) : M := ⟨m.w, fun l i => match l with | 0 => none | l + 1 => m.ρ (l + 1) i, fun k => m.U k ∧ ¬ ∃ i v, i < n ∧ m.ρ 0 i = some v ∧ blkOf v = some k⟩
theorem fro_ok {m : M} {n k : Nat} (h : m.ok k) : (froM m n).ok k := ⟨h.1, fun hu => h.2 hu.1⟩
theorem fz_rp {m : M} {N : List RowB} {H : List (List Blk)} (hi : Inv m (N.map RowB.blk) H) : ∀ (k : Nat) (p : PV) (v : Value), RP m p v → RP (froM m N.length) (fz N k p) v
  | 0, p, v, h => .any _
  | k + 1, p, v, h => by
    cases h with
    | any v => exact .any v
    | kb b => exact .kb b
    | ub b => exact .ub b
    | d x v h => exact .d _ _ (h.mono fun k hk => ⟨fro_ok hk, rfl⟩)
    | nils => exact .nils
    | row l i n A0 c A hρ hn hc =>
      cases l with
      | succ l => exact .any _
      | zero =>
        change RP _ (match N[i]? with | some r => PV.d (.sl (r.xs.take n)) | none => .any) _
        cases hN : N[i]? with
        | none => exact .any _
        | some r =>
          have hil : i < N.length := (List.getElem?_eq_some_iff.1 hN).1
          exact .d _ _ (own_rd (i := i) (e := r.e) (sz := r.sz) hi (by rw [List.getElem?_map, hN]; rfl) hρ hn hc rfl (fun k hk => fro_ok hk) (fun k hk hu => hu.2 ⟨i, _, hil, hρ, hk⟩))
    | ptr l i o g hρ => exact .any _
    | rptr l i sz e j g A0 c hρ => exact .any _
    | iptr cs ad u hc hr => exact RP.other (m := m) (m' := froM m N.length) rfl (fun _ h => h.1) rfl (.iptr cs ad u hc hr)
    | func fn fs cs fv cv h1 h2 h3 h4 => exact .any _
    | agg cs vs h1 h2 =>
      refine .agg _ _ (by simp [h1]) (fun j p v hp hv => ?_)
      rw [List.getElem?_map] at hp
      obtain ⟨q, hq, rfl⟩ := Option.map_eq_some_iff.1 hp
      exact fz_rp hi k q v (h2 j q v hq hv)
    | tuple cs vs h1 h2 =>
      refine .tuple _ _ (by simp [h1]) (fun j p v hp hv => ?_)
      rw [List.getElem?_map] at hp
      obtain ⟨q, hq, rfl⟩ := Option.map_eq_some_iff.1 hp
      exact fz_rp hi k q v (h2 j q v hq hv)
/-- New rows that nobody turns any more are plain data. -/
theorem CallEq.freeze {C : Cx} {H : List (List Blk)} {f : Nat} {args : List PV} {r : PV} {N : List RowB} (h : CallEq C H f args r N) (k : Nat) {r' : PV} (hr : fz N k r = r') : CallEq C H f args r' [] := by
  subst hr
  unfold CallEq at h ⊢
  intro m vs hinv hfree hlen hargs
  refine (h m vs hinv hfree hlen hargs).mono ?_
  rintro e w' ⟨v, m', rfl, rfl, hg, hup, hfr, hi, hr⟩
  refine ⟨v, froM m' N.length, rfl, rfl, ⟨hg.os, hg.tape, hg.output, hg.size, hg.heap, fun l i u hu => ?_, fun j hj => ?_⟩, fun l i => hup l i, (fun j u k hu => by cases hu), ⟨fun l i b hb => ?_, fun l i b l' i' b' u u' j h1 h2 h3 h4 h5 h6 h7 h8 => ?_, fun l i b u j h1 h2 h3 h4 => ?_, fun j hj => hi.lt j hj.1⟩, fz_rp hi k r v hr⟩
  · cases l with
    | zero => rw [hfree i] at hu; cases hu
    | succ l => exact (hup l i).trans hu
  · refine Iff.trans ⟨fun hu => hu.1, fun hu => ⟨hu, ?_⟩⟩ (hg.U j hj)
    rintro ⟨i, u, _, hu, hk⟩
    have := hfr i u j hu hk
    omega
  · cases l with
    | zero => simp [getB] at hb
    | succ l =>
      have hbo := hi.blk (l + 1) i b hb
      cases b with
      | dead => trivial
      | row e sz xs =>
        intro u hu
        obtain ⟨a1, a2, flat, a3, a4⟩ := hbo u hu
        exact ⟨a1, a2, flat, a3, fun i x j y u hx hy hu => (a4 i x j y u hx hy hu).mono fun k hk => ⟨fro_ok hk, rfl⟩⟩
      | box cs =>
        intro u hu
        obtain ⟨g, us, e, q1, q2, q3, q4⟩ := hbo u hu
        refine ⟨g, us, e, q1, q2, q3, fun j p x hp hx => ?_⟩
        have K : Keep (m'.up (l + 1)) ((froM m' N.length).up (l + 1)) := ⟨fun a i' u' hu' => hu', Nat.le_refl _, fun k hk => ⟨fun hu => hk.2 hu.1, rfl⟩⟩
        exact (q4 j p x hp hx).keep K
  · cases l with
    | zero => simp [getB] at h1
    | succ l =>
      cases l' with
      | zero => simp [getB] at h3
      | succ l' => exact hi.inj (l + 1) i b (l' + 1) i' b' u u' j h1 h2 h3 h4 h5 h6 h7 h8
  · cases l with
    | zero => simp [getB] at h1
    | succ l =>
      refine ⟨hi.own (l + 1) i b u j h1 h2 h3 h4, ?_⟩
      rintro ⟨i', u', hi', hu', hk'⟩
      have hN : getB (N.map RowB.blk) H 0 i' = some (N[i']).blk := by simp [getB, hi']
      have := hi.inj (l + 1) i b 0 i' _ u u' j h1 h2 hN rfl h3 hu' h4 hk'
      cases this.1
end Go.Proofs.Ve
