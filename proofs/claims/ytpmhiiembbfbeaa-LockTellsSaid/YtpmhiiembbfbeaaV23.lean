/- From what a law's arguments read as to plain data; from a contract to the row. (Nothing of one seat: but for the parts that it imports.) -/
import Derived.Test.YtpmhiiembbfbeaaV21
import Derived.Deep.Slices
import Derived.ChangeMaps5
import Derived.RowKit
import Derived.OpenShut
set_option linter.all false
namespace Go.Proofs.Ve
open Go Go.ChangeShapes Go.WideShapes Go.RowKit

/-- What a cell may hold. -/
inductive CT where
  | bool
  | int (k : IntKind)
  | str
  | sl (r : List CT)
inductive FitC : CT → DV → Prop
  | bool (b : Bool) : FitC .bool (.bool b)
  | int (k : IntKind) (n : Int) (h : (Lit.int k n).wf = true) : FitC (.int k) (.int k n)
  | str (s : ByteArray) (h : s.size ≤ maxLen) : FitC .str (.str s)
  | sl (r : List CT) (xs : List (List DV)) (hn : xs.length ≤ maxLen) (hs : ∀ x ∈ xs, x.length = r.length) (h : ∀ x ∈ xs, ∀ (j : Nat) c y, r[j]? = some c → x[j]? = some y → FitC c y) : FitC (.sl r) (.sl xs)
def FitR (r : List CT) (x : List DV) : Prop := x.length = r.length ∧ ∀ (j : Nat) c y, r[j]? = some c → x[j]? = some y → FitC c y
theorem FitR.nil : FitR [] [] := ⟨rfl, fun j c y h => by simp at h⟩
theorem FitR.cons {c : CT} {r : List CT} {x : List DV} (h : FitR (c :: r) x) : ∃ y x', x = y :: x' ∧ FitC c y ∧ FitR r x' := by
  obtain ⟨h1, h2⟩ := h
  match x, h1 with
  | y :: x', h1 => exact ⟨y, x', rfl, h2 0 c y rfl rfl, by simpa using h1, fun j c' y' hc hy => h2 (j + 1) c' y' (by simpa using hc) (by simpa using hy)⟩
theorem FitR.done {x : List DV} (h : FitR [] x) : x = [] := by
  obtain ⟨h1, _⟩ := h
  exact List.length_eq_zero_iff.1 (by simpa using h1)
theorem FitR.app {a b : List CT} {x y : List DV} (h : FitR a x) (k : FitR b y) : FitR (a ++ b) (x ++ y) := by
  refine ⟨by rw [List.length_append, List.length_append, h.1, k.1], fun j c u hc hu => ?_⟩
  by_cases hj : j < a.length
  · rw [List.getElem?_append_left hj] at hc
    rw [List.getElem?_append_left (by rw [h.1]; exact hj)] at hu
    exact h.2 j c u hc hu
  · rw [List.getElem?_append_right (by omega)] at hc
    rw [List.getElem?_append_right (by rw [h.1]; omega), h.1] at hu
    exact k.2 _ c u hc hu
theorem FitC.sl_inv {r : List CT} {x : DV} (h : FitC (.sl r) x) : ∃ xs, x = .sl xs ∧ xs.length ≤ maxLen ∧ ∀ y ∈ xs, FitR r y := by
  cases h with
  | sl _ xs hn hs h => exact ⟨xs, rfl, hn, fun y hy => ⟨hs y hy, h y hy⟩⟩
theorem FitC.bool_inv {x : DV} (h : FitC .bool x) : ∃ b, x = .bool b := by cases h; exact ⟨_, rfl⟩
theorem FitC.int_inv {k : IntKind} {x : DV} (h : FitC (.int k) x) : ∃ n, x = .int k n ∧ (Lit.int k n).wf = true := by cases h with | int _ n h => exact ⟨n, rfl, h⟩
theorem FitC.str_inv {x : DV} (h : FitC .str x) : ∃ s, x = .str s ∧ s.size ≤ maxLen := by cases h with | str s h => exact ⟨s, rfl, h⟩

/-- The cells of a type, where they are plain. -/
noncomputable def layOff (one : TypeId → Option (List CT)) (size : TypeId → Nat) (l : List (Nat × TypeId)) : Nat → Option (List CT) :=
  List.rec (fun _ => some []) (fun p _ ih off => if p.1 = off then (one p.2).bind fun r => if r.length = size p.2 then (ih (off + size p.2)).map fun rs => r ++ rs else none else none) l
noncomputable def layB (P : Program) (fuel : Nat) : TypeId → Option (List CT) :=
  Nat.rec (fun _ => none) (fun _ ih t =>
    match P.underlying t with
    | some .bool => some [.bool]
    | some (.int k) => some [.int k]
    | some .string => some [.str]
    | some (.slice e) => (ih e).bind fun r => if r.length = P.cellsOf e then some [.sl r] else none
    | some (.struct fs) => (layOff ih P.cellsOf (fs.toList.map fun f => (f.offset, f.type)) 0).bind fun r => if r.length = P.cellsOf t then some r else none
    | some (.array n e) => (layOff ih P.cellsOf ((List.range n).map fun i => (i * P.cellsOf e, e)) 0).bind fun r => if r.length = P.cellsOf t then some r else none
    | _ => none) fuel

section
variable {H : Type} {enc : TypeId × Value → H} {P : Program} {w : World} {spare : Nat → Bool} {held : Bool}
def okW (w : World) (k : Nat) : Prop := k < w.heap.size
def Reads (w : World) (r : List CT) (cs : List Value) (ds : List DV) : Prop :=
  cs.length = r.length ∧ FitR r ds ∧ ∀ (j : Nat) y u, ds[j]? = some y → cs[j]? = some u → RD w (okW w) y u
theorem reads_one {c : CT} {y : DV} {u : Value} (h : FitC c y) (k : RD w (okW w) y u) : Reads w [c] [u] [y] := by
  refine ⟨rfl, ⟨rfl, fun j c' y' hc hy => ?_⟩, fun j y' u' hy hu => ?_⟩
  · cases j with
    | zero => simp at hc hy; subst hc; subst hy; exact h
    | succ j => simp at hc
  · cases j with
    | zero => simp at hu hy; subst hu; subst hy; exact k
    | succ j => simp at hy
theorem cell_lt {a : Addr} {v : Value} (h : w.cell? a = some v) : a.block < w.heap.size := by
  apply Classical.byContradiction
  intro hn
  have : w.heap[a.block]? = none := by rw [Array.getElem?_eq_none_iff]; omega
  simp [World.cell?, this] at h
theorem off_sound {fuel : Nat} {one : TypeId → Option (List CT)} (hone : ∀ t r, one t = some r → ∀ fuel cs x, DataW.trod enc P w 0 spare held fuel t cs = some x → ∃ ds, Reads w r cs ds) (cs : List Value) :
    ∀ (l : List (Nat × TypeId)) (off : Nat) (r : List CT), layOff one P.cellsOf l off = some r → off + r.length ≤ cs.length →
      (∀ p ∈ l, ∃ n y, DataW.trod enc P w 0 spare held n p.2 ((cs.drop p.1).take (P.cellsOf p.2)) = some y) → ∃ ds, Reads w r ((cs.drop off).take r.length) ds := by
  intro l
  induction l with
  | nil =>
    intro off r h hle _
    change some [] = some r at h
    cases h
    exact ⟨[], by simp, FitR.nil, fun j y u hy => by simp at hy⟩
  | cons p l ih =>
    intro off r h hle hx
    change (if p.1 = off then (one p.2).bind fun r => if r.length = P.cellsOf p.2 then (layOff one P.cellsOf l (off + P.cellsOf p.2)).map fun rs => r ++ rs else none else none) = some r at h
    split at h
    · next hoff =>
      obtain ⟨r1, h1, h2⟩ := Option.bind_eq_some_iff.1 h
      split at h2
      · next hlen =>
        obtain ⟨rs, h3, rfl⟩ := Option.map_eq_some_iff.1 h2
        rw [List.length_append] at hle ⊢
        obtain ⟨n, y, hy⟩ := hx p (List.mem_cons_self ..)
        obtain ⟨d1, e1, f1, g1⟩ := hone p.2 r1 h1 n _ y hy
        obtain ⟨d2, e2, f2, g2⟩ := ih (off + P.cellsOf p.2) rs h3 (by omega) (fun q hq => hx q (List.mem_cons_of_mem _ hq))
        rw [hoff] at g1 e1
        refine ⟨d1 ++ d2, by rw [List.length_take, List.length_drop, List.length_append]; omega, f1.app f2, fun j u v hu hv => ?_⟩
        by_cases hj : j < r1.length
        · rw [List.getElem?_append_left (by rw [f1.1]; exact hj)] at hu
          refine g1 j u v hu ?_
          rw [List.getElem?_take, if_pos (by omega)] at hv ⊢
          exact hv
        · rw [List.getElem?_append_right (by rw [f1.1]; omega), f1.1] at hu
          refine g2 (j - r1.length) u v hu ?_
          rw [List.getElem?_take] at hv ⊢
          split at hv
          · next hjj =>
            rw [if_pos (by omega)]
            rw [List.getElem?_drop] at hv ⊢
            rw [← hv]; congr 1; omega
          · cases hv
      · cases h2
    · cases h
theorem trod_arr {t e : TypeId} {n fuel : Nat} {cs : List Value} {x : DataW H × List MemPlace} (ht : P.underlying t = some (.array n e)) (h : DataW.trod enc P w 0 spare held fuel t cs = some x) :
    ∃ m, cs.length = P.cellsOf t ∧ ∀ i, i < n → ∃ y, DataW.trod enc P w 0 spare held m e ((cs.drop (i * P.cellsOf e)).take (P.cellsOf e)) = some y := by
  cases fuel with
  | zero => simp [DataW.trod] at h
  | succ m =>
    unfold DataW.trod at h
    rw [ht] at h
    split at h <;> simp_all
    obtain ⟨hcl, xs, hp, hd⟩ := h
    refine ⟨m, fun i hi => ?_⟩
    have hg := mapM_some_get hp i i (by simp [hi])
    have hlt : i < xs.length := by have := mapM_some_length hp; simp at this; omega
    rw [List.getElem?_eq_getElem hlt] at hg
    obtain ⟨a, b, hab⟩ : ∃ a b, xs[i] = (a, b) := ⟨_, _, rfl⟩
    exact ⟨a, b, hg.trans (by rw [hab])⟩
theorem lay_sound : ∀ (f : Nat) (t : TypeId) (r : List CT), layB P f t = some r → ∀ fuel cs x, DataW.trod enc P w 0 spare held fuel t cs = some x → ∃ ds, Reads w r cs ds := by
  intro f
  induction f with
  | zero => intro t r h; cases h
  | succ f ih =>
    intro t r h fuel cs x hx
    change (match P.underlying t with
      | some .bool => some [.bool]
      | some (.int k) => some [.int k]
      | some .string => some [.str]
      | some (.slice e) => (layB P f e).bind fun r => if r.length = P.cellsOf e then some [.sl r] else none
      | some (.struct fs) => (layOff (layB P f) P.cellsOf (fs.toList.map fun f => (f.offset, f.type)) 0).bind fun r => if r.length = P.cellsOf t then some r else none
      | some (.array n e) => (layOff (layB P f) P.cellsOf ((List.range n).map fun i => (i * P.cellsOf e, e)) 0).bind fun r => if r.length = P.cellsOf t then some r else none
      | _ => none) = some r at h
    split at h
    · next hu =>
      cases h
      obtain ⟨b, rfl, _⟩ := DataW.trod_bool hu hx
      exact ⟨_, reads_one (.bool b) (.bool b)⟩
    · next k hu =>
      cases h
      obtain ⟨n, rfl, _, hw⟩ := DataW.trod_int hu hx
      exact ⟨_, reads_one (.int k n hw) (.int k n)⟩
    · next hu =>
      cases h
      obtain ⟨s, rfl, _, hs⟩ := DataW.trod_string hu hx
      exact ⟨_, reads_one (.str s hs) (.str s)⟩
    · next e hu =>
      obtain ⟨r1, h1, h2⟩ := Option.bind_eq_some_iff.1 h
      split at h2
      · next hlen =>
        cases h2
        rcases Deep.open_slice hu hx with ⟨rfl, _⟩ | ⟨a, len, cap, m, n, D, Pl, rfl, hb, hl, hm, hmm, rfl, hel⟩
        · refine ⟨_, reads_one (.sl r1 [] (Nat.zero_le _) (fun x hx => by cases hx) (fun x hx => by cases hx)) (.sl r1.length [] none 0 0 ⟨0, 0, none⟩ (fun _ => .nilFunc) rfl (Nat.le_refl _) (by omega) (fun h => by omega) (fun x hx => by cases hx) (fun i x j y hx => by simp at hx) (fun i x j y hx => by simp at hx))⟩
        · have hlm : len ≤ m := by rw [hmm]; split <;> omega
          have hall : ∀ i, i < len → ∃ d : List DV, FitR r1 d ∧ ∀ (j : Nat) y, d[j]? = some y → ∃ u, w.cell? (a.add (i * r1.length + j)) = some u ∧ RD w (okW w) y u := by
            intro i hi
            obtain ⟨cs', hc, ht⟩ := hel i (by omega)
            obtain ⟨d, e1, e2, e3⟩ := ih e r1 h1 n cs' _ ht
            obtain ⟨_, hlen', hcell⟩ := World.cells?_some hc
            refine ⟨d, e2, fun j y hy => ?_⟩
            have hj : j < cs'.length := by rw [e1, ← e2.1]; exact (List.getElem?_eq_some_iff.1 hy).1
            have := hcell j (by omega)
            rw [Deep.add_add, List.getElem?_eq_getElem hj] at this
            exact ⟨cs'[j], by rw [hlen]; exact this, e3 j y _ hy (List.getElem?_eq_getElem hj)⟩
          obtain ⟨d, hd⟩ := Deep.choose_lt hall
          have mem : ∀ x ∈ (List.range len).map d, ∃ i, i < len ∧ x = d i := fun x hx => by
            obtain ⟨i, hi, rfl⟩ := List.mem_map.1 hx
            exact ⟨i, List.mem_range.1 hi, rfl⟩
          have at_ : ∀ (i : Nat) x, ((List.range len).map d)[i]? = some x → i < len ∧ x = d i := fun i x hx => by
            rw [List.getElem?_map] at hx
            obtain ⟨k, hk, rfl⟩ := Option.map_eq_some_iff.1 hx
            obtain ⟨hlt, hk⟩ := List.getElem?_eq_some_iff.1 hk
            simp at hk hlt
            subst hk
            exact ⟨hlt, rfl⟩
          refine ⟨_, reads_one (.sl r1 ((List.range len).map d) (by simp; omega) (fun x hx => ?_) (fun x hx => ?_)) (.sl r1.length ((List.range len).map d) (some a) len cap a (fun k => (w.cell? (a.add k)).getD .nilFunc) (by simp) hl (by unfold maxLen at hm; omega) (fun _ => rfl) (fun x hx => ?_) (fun i x j y hx hy => ?_) (fun i x j y hx hy => ?_))⟩
          · obtain ⟨i, hi, rfl⟩ := mem x hx; exact (hd i hi).1.1
          · obtain ⟨i, hi, rfl⟩ := mem x hx; exact (hd i hi).1.2
          · obtain ⟨i, hi, rfl⟩ := mem x hx; exact (hd i hi).1.1
          · obtain ⟨hi, rfl⟩ := at_ i x hx
            obtain ⟨u, hu1, hu2⟩ := (hd i hi).2 j y hy
            refine ⟨?_, by rw [hu1]; rfl⟩
            have := cell_lt hu1
            rw [add_block] at this
            exact this
          · obtain ⟨hi, rfl⟩ := at_ i x hx
            obtain ⟨u, hu1, hu2⟩ := (hd i hi).2 j y hy
            show RD w (okW w) y ((w.cell? (a.add (i * r1.length + j))).getD .nilFunc)
            rw [hu1]; exact hu2
      · cases h2
    · next fs hu =>
      obtain ⟨r1, h1, h2⟩ := Option.bind_eq_some_iff.1 h
      split at h2
      · next hlen =>
        cases h2
        obtain ⟨xs, n, _, _, hcl, hxl, hf⟩ := DataW.trod_struct hu hx
        have := off_sound (fuel := 0) ih cs _ 0 r h1 (by omega) (fun p hp => by
          obtain ⟨g, hg, rfl⟩ := List.mem_map.1 hp
          obtain ⟨i, hi⟩ := List.mem_iff_getElem?.1 hg
          have hi' : fs[i]? = some g := by simpa using hi
          have := hf i g hi'
          have hlt : i < xs.length := by rw [hxl]; exact (Array.getElem?_eq_some_iff.1 hi').1
          rw [List.getElem?_eq_getElem hlt] at this
          exact ⟨n, _, this⟩)
        rw [List.drop_zero, List.take_of_length_le (by omega)] at this
        exact this
      · cases h2
    · next n e hu =>
      obtain ⟨r1, h1, h2⟩ := Option.bind_eq_some_iff.1 h
      split at h2
      · next hlen =>
        cases h2
        obtain ⟨m, hcl, hf⟩ := trod_arr hu hx
        have := off_sound (fuel := 0) ih cs _ 0 r h1 (by omega) (fun p hp' => by
          obtain ⟨i, hi, rfl⟩ := List.mem_map.1 hp'
          exact ⟨m, hf i (List.mem_range.1 hi)⟩)
        rw [List.drop_zero, List.take_of_length_le (by omega)] at this
        exact this
      · cases h2
    · cases h
/-- What a parameter is to the walker. -/
def aggB (P : Program) (t : TypeId) : Bool := match P.underlying t with | some (.struct _) => true | some (.array _ _) => true | _ => false
def pOf (agg : Bool) (ds : List DV) : PV := match agg with | true => .agg (ds.map .d) | false => (match ds with | [y] => .d y | _ => .any)
def m0 (w : World) : M := ⟨w, fun _ _ => none, fun _ => False⟩
theorem m0_ok (w : World) (k : Nat) (h : okW w k) : (m0 w).ok k := ⟨h, fun h => h⟩
theorem RD.m0 {x : DV} {v : Value} (h : RD w (okW w) x v) : RD (m0 w).w (m0 w).ok x v := h.mono fun k hk => ⟨m0_ok w k hk, rfl⟩
theorem arg_reads {t : TypeId} {v : Value} {d : DataW H} {ps : List MemPlace} (f : Nat) {r : List CT} (hr : layB P f t = some r) (hval : Value.okWide P w .any 0 t v) (hd : DataW.Trod enc P w 0 spare held t v d ps) :
    ∃ ds, FitR r ds ∧ RP (m0 w) (pOf (aggB P t) ds) v := by
  obtain ⟨fuel, hf⟩ := hd
  obtain ⟨ds, h1, h2, h3⟩ := lay_sound f t r hr fuel _ _ hf
  refine ⟨ds, h2, ?_⟩
  have single : ∀ v : Value, v.cells = #[v] → Reads w r v.cells.toList ds → RP (m0 w) (pOf false ds) v := fun v hv hd => by
    obtain ⟨h1, h2, h3⟩ := hd
    rw [hv] at h1 h3
    have hl : ds.length = 1 := by rw [h2.1, ← h1]; rfl
    match ds, hl with
    | [y], _ => exact .d y v (h3 0 y v rfl rfl).m0
  cases f with
  | zero => cases hr
  | succ f =>
    change (match P.underlying t with
      | some .bool => some [.bool]
      | some (.int k) => some [.int k]
      | some .string => some [.str]
      | some (.slice e) => (layB P f e).bind fun r => if r.length = P.cellsOf e then some [.sl r] else none
      | some (.struct fs) => (layOff (layB P f) P.cellsOf (fs.toList.map fun f => (f.offset, f.type)) 0).bind fun r => if r.length = P.cellsOf t then some r else none
      | some (.array n e) => (layOff (layB P f) P.cellsOf ((List.range n).map fun i => (i * P.cellsOf e, e)) 0).bind fun r => if r.length = P.cellsOf t then some r else none
      | _ => none) = some r at hr
    unfold aggB
    have agg : ∀ cs : Array Value, v = .agg cs → RP (m0 w) (pOf true ds) v := fun cs hv => by
      subst hv
      refine .agg _ _ ?_ fun j p u hp hu => ?_
      · rw [List.length_map, h2.1, ← h1]; simp [Value.cells]
      · rw [List.getElem?_map] at hp
        obtain ⟨y, hy, rfl⟩ := Option.map_eq_some_iff.1 hp
        exact .d y u (h3 j y u hy (by simpa [Value.cells] using hu)).m0
    split at hr
    · next hu => rw [hu]; obtain ⟨b, rfl⟩ := okWide_bool hu hval; exact single _ rfl ⟨h1, h2, h3⟩
    · next k hu => rw [hu]; obtain ⟨n, rfl⟩ := okWide_int hu hval; exact single _ rfl ⟨h1, h2, h3⟩
    · next hu => rw [hu]; obtain ⟨s, rfl⟩ := okWide_string hu hval; exact single _ rfl ⟨h1, h2, h3⟩
    · next e hu => rw [hu]; obtain ⟨a, l, c, rfl⟩ := okWide_slice hu hval; exact single _ rfl ⟨h1, h2, h3⟩
    · next fs hu => rw [hu]; obtain ⟨cs, hv, _⟩ := okWide_struct hu hval; exact agg cs hv
    · next n e hu =>
      rw [hu]
      simp only [Value.okWide, hu] at hval
      obtain ⟨cs, hv, _⟩ := hval
      exact agg cs hv
    · cases hr
end
/-- Into the row. -/
theorem m0_inv (w : World) : Inv (m0 w) [] [] := by
  have none_ : ∀ l i b, getB [] [] l i = some b → False := fun l i b h => by cases l <;> simp [getB] at h
  exact ⟨fun l i b h => (none_ l i b h).elim, fun l i b l' i' b' v v' k h => (none_ l i b h).elim, fun l i b v k h => (none_ l i b h).elim, fun k hk => hk.elim⟩
theorem CallEq.calls {C : Cx} {f : Nat} {args : List PV} {b : Bool} {vs : Array Value} {w : World} (h : CallEq C [] f args (.d (.bool b)) []) (hn : args.length = vs.size) (ha : ∀ (j : Nat) p v, args[j]? = some p → vs[j]? = some v → RP (m0 w) p v) :
    Calls C.P f vs w fun e w' => e = .returned (.bool b) ∧ Below w.heap.size w w' := by
  unfold CallEq at h
  refine (h (m0 w) vs (m0_inv w) (fun _ => rfl) hn ha).mono fun e w' ⟨v, m', he, hw, hg, _, _, _, hr⟩ => ?_
  subst hw
  have hv : v = .bool b := by
    cases hr with
    | d x v hx => cases hx; rfl
  exact ⟨by rw [he, hv], hg.os, hg.tape, hg.output, hg.size, hg.heap⟩
end Go.Proofs.Ve
