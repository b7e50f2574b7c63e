/- The value machine: values by value, blocks by number; what it says of the model's worlds. (No statement is proved here.) -/
import Derived.Orders
import Derived.Below
import Derived.Laws.Cells
import Derived.Laws.AppendOwn
import Derived.Laws.OwnMore
import Derived.Maps.AppendAt
import Derived.Laws.IdiomCopy
import Derived.Laws.CopyRow
import Derived.KernelRfl
import Derived.Lib.BytesEntry
set_option linter.all false
namespace Go.Proofs.Ve
open Go

/-- Plain data, immutable. -/
inductive DV where
  | bool (b : Bool)
  | int (k : IntKind) (n : Int)
  | str (s : ByteArray)
  | sl (xs : List (List DV))

/-- What a temporary, or a cell, holds. -/
inductive PV where
  | any
  | kb (b : Bool)
  | ub
  | d (x : DV)
  | nils
  | row (l i n : Nat)
  | ptr (l i o : Nat)
  | rptr (l i sz e j : Nat)
  | iptr (cs : List DV)
  | func (fn : Fn) (first caps : List PV)
  | agg (cs : List PV)
  | tuple (cs : List PV)

inductive Blk where
  | dead
  | box (cs : List PV)
  | row (e sz : Nat) (xs : List (List DV))

def Blk.live : Blk → Bool
  | .dead => false
  | _ => true

/-- The blocks of a frame, and of those behind it. -/
def getB (top : List Blk) (H : List (List Blk)) : Nat → Nat → Option Blk
  | 0, i => top[i]?
  | l + 1, i => (H[l]?).bind (·[i]?)

inductive RD (w : World) (ok : Nat → Prop) : DV → Value → Prop
  | bool (b : Bool) : RD w ok (.bool b) (.bool b)
  | int (k : IntKind) (n : Int) : RD w ok (.int k n) (.int k n)
  | str (s : ByteArray) : RD w ok (.str s) (.string s)
  | sl (sz : Nat) (xs : List (List DV)) (A : Option Addr) (n c : Nat) (ad : Addr) (u : Nat → Value)
      (hn : xs.length = n) (hc : n ≤ c) (hm : n ≤ 9223372036854775807) (hA : 0 < n → A = some ad) (hs : ∀ x ∈ xs, x.length = sz)
      (hcell : ∀ (i : Nat) x (j : Nat) y, xs[i]? = some x → x[j]? = some y → ok ad.block ∧ w.cell? (ad.add (i * sz + j)) = some (u (i * sz + j)))
      (hr : ∀ (i : Nat) x (j : Nat) y, xs[i]? = some x → x[j]? = some y → RD w ok y (u (i * sz + j))) :
      RD w ok (.sl xs) (.slice A n c)

theorem RD.mono {w w' : World} {ok ok' : Nat → Prop} (h : ∀ k, ok k → ok' k ∧ w'.heap[k]? = w.heap[k]?) {x : DV} {v : Value} (hx : RD w ok x v) : RD w' ok' x v := by
  induction hx with
  | bool b => exact .bool b
  | int k n => exact .int k n
  | str s => exact .str s
  | sl sz xs A n c ad u hn hc hm hA hs hcell hr ih =>
    refine .sl sz xs A n c ad u hn hc hm hA hs (fun i x j y hx hy => ?_) ih
    obtain ⟨h1, h2⟩ := hcell i x j y hx hy
    obtain ⟨h3, h4⟩ := h _ h1
    refine ⟨h3, ?_⟩
    rw [World.cell?_of_block (a := ad.add (i * sz + j)) (w := w) (w' := w') ?_]
    · exact h2
    · have : (ad.add (i * sz + j)).block = ad.block := by unfold Addr.add; split <;> rfl
      rw [this]; exact h4

theorem RD.one {w : World} {ok : Nat → Prop} {x : DV} {v : Value} (h : RD w ok x v) : v.oneCell' = true := by cases h <;> rfl

/-- A world, the names of blocks, and what is not to be looked at as plain data. -/
structure M where
  w : World
  ρ : Nat → Nat → Option Value
  U : Nat → Prop

def M.ok (m : M) (k : Nat) : Prop := k < m.w.heap.size ∧ ¬ m.U k

def blkOf : Value → Option Nat
  | .pointer (some a) => some a.block
  | .slice (some a) _ _ => some a.block
  | _ => none

inductive RP (m : M) : PV → Value → Prop
  | any (v : Value) : RP m .any v
  | kb (b : Bool) : RP m (.kb b) (.bool b)
  | ub (b : Bool) : RP m .ub (.bool b)
  | d (x : DV) (v : Value) (h : RD m.w m.ok x v) : RP m (.d x) v
  | nils : RP m .nils (.slice none 0 0)
  | row (l i n N c : Nat) (A : Option Addr) (h : m.ρ l i = some (.slice A N c)) (hn : n ≤ N) (hc : N ≤ c) : RP m (.row l i n) (.slice A n c)
  | ptr (l i o g : Nat) (h : m.ρ l i = some (.pointer (some ⟨g, 0, none⟩))) : RP m (.ptr l i o) (.pointer (some ⟨g, o, none⟩))
  | rptr (l i sz e j g N c : Nat) (h : m.ρ l i = some (.slice (some ⟨g, 0, none⟩) N c)) : RP m (.rptr l i sz e j) (.pointer (some ⟨g, e * sz + j, none⟩))
  | iptr (cs : List DV) (ad : Addr) (u : Nat → Value) (hc : ∀ (j : Nat) y, cs[j]? = some y → m.ok ad.block ∧ m.w.cell? (ad.add j) = some (u j))
      (hr : ∀ (j : Nat) y, cs[j]? = some y → RD m.w m.ok y (u j)) : RP m (.iptr cs) (.pointer (some ad))
  | func (fn : Fn) (fs cs : List PV) (fv cv : Array Value) (h1 : fs.length = fv.size) (h2 : cs.length = cv.size)
      (h3 : ∀ (j : Nat) p v, fs[j]? = some p → fv[j]? = some v → RP m p v) (h4 : ∀ (j : Nat) p v, cs[j]? = some p → cv[j]? = some v → RP m p v) : RP m (.func fn fs cs) (.func fn fv cv)
  | agg (cs : List PV) (vs : Array Value) (h1 : cs.length = vs.size) (h2 : ∀ (j : Nat) p v, cs[j]? = some p → vs[j]? = some v → RP m p v) : RP m (.agg cs) (.agg vs)
  | tuple (cs : List PV) (vs : Array Value) (h1 : cs.length = vs.size) (h2 : ∀ (j : Nat) p v, cs[j]? = some p → vs[j]? = some v → RP m p v) : RP m (.tuple cs) (.tuple vs)

/-- What is one cell. -/
def PV.cell : PV → Bool
  | .any | .agg _ | .tuple _ => false
  | _ => true

theorem RP.one {m : M} {p : PV} {v : Value} (h : RP m p v) (hp : p.cell = true) : v.oneCell' = true := by
  cases h <;> first | rfl | (simp [PV.cell] at hp; done) | (rename_i h; exact h.one)

/-- what is no name of a block -/
def PV.inv : PV → Bool
  | .kb _ | .ub | .d _ | .nils | .iptr _ => true
  | _ => false
theorem RP.other {m m' : M} (hw : m'.w = m.w) (hU : ∀ k, m'.U k → m.U k) {p : PV} {v : Value} (hp : p.inv = true) (h : RP m p v) : RP m' p v := by
  have hk : ∀ k, m.ok k → m'.ok k ∧ m'.w.heap[k]? = m.w.heap[k]? := fun k hk => ⟨⟨by rw [hw]; exact hk.1, fun hu => hk.2 (hU k hu)⟩, by rw [hw]⟩
  cases h <;> try (simp [PV.inv] at hp; done)
  · exact .kb _
  · exact .ub _
  · rename_i h; exact .d _ _ (h.mono hk)
  · exact .nils
  · rename_i cs ad u hc hr
    refine .iptr cs ad u (fun j y hy => ?_) (fun j y hy => (hr j y hy).mono hk)
    obtain ⟨h1, h2⟩ := hc j y hy
    exact ⟨(hk _ h1).1, by rw [hw]; exact h2⟩

/-- What keeps all that is known: no name is lost, plain data stays. -/
structure Keep (m m' : M) : Prop where
  ρ : ∀ l i v, m.ρ l i = some v → m'.ρ l i = some v
  size : m.w.heap.size ≤ m'.w.heap.size
  plain : ∀ k, m.ok k → ¬ m'.U k ∧ m'.w.heap[k]? = m.w.heap[k]?

theorem Keep.ok {m m' : M} (h : Keep m m') (k : Nat) (hk : m.ok k) : m'.ok k ∧ m'.w.heap[k]? = m.w.heap[k]? :=
  ⟨⟨Nat.lt_of_lt_of_le hk.1 h.size, (h.plain k hk).1⟩, (h.plain k hk).2⟩
theorem Keep.refl (m : M) : Keep m m := ⟨fun _ _ _ h => h, Nat.le_refl _, fun k h => ⟨h.2, rfl⟩⟩
theorem Keep.trans {m m' m'' : M} (h : Keep m m') (k : Keep m' m'') : Keep m m'' :=
  ⟨fun l i v e => k.ρ l i v (h.ρ l i v e), Nat.le_trans h.size k.size, fun j hj => ⟨(k.plain j (h.ok j hj).1).1, (k.plain j (h.ok j hj).1).2.trans (h.plain j hj).2⟩⟩
theorem RD.keep {m m' : M} (h : Keep m m') {x : DV} {v : Value} (hx : RD m.w m.ok x v) : RD m'.w m'.ok x v := hx.mono h.ok
theorem RP.keep {m m' : M} (h : Keep m m') {p : PV} {v : Value} (hp : RP m p v) : RP m' p v := by
  induction hp with
  | any v => exact .any v
  | kb b => exact .kb b
  | ub b => exact .ub b
  | d x v hx => exact .d x v (hx.keep h)
  | nils => exact .nils
  | row l i n N c A hl hn hc => exact .row l i n N c A (h.ρ _ _ _ hl) hn hc
  | ptr l i o g hl => exact .ptr l i o g (h.ρ _ _ _ hl)
  | rptr l i sz e j g N c hl => exact .rptr l i sz e j g N c (h.ρ _ _ _ hl)
  | iptr cs ad u hc hr =>
    refine .iptr cs ad u (fun j y hy => ?_) (fun j y hy => (hr j y hy).keep h)
    obtain ⟨h1, h2⟩ := hc j y hy
    obtain ⟨h3, h4⟩ := h.ok _ h1
    refine ⟨h3, ?_⟩
    rw [World.cell?_of_block (a := ad.add j) (w := m.w) (w' := m'.w) ?_]
    · exact h2
    · have : (ad.add j).block = ad.block := by unfold Addr.add; split <;> rfl
      rw [this]; exact h4
  | func fn fs cs fv cv h1 h2 h3 h4 ih1 ih2 => exact .func fn fs cs fv cv h1 h2 ih1 ih2
  | agg cs vs h1 h2 ih => exact .agg cs vs h1 ih
  | tuple cs vs h1 h2 ih => exact .tuple cs vs h1 ih

/-- As the l-th frame behind sees it. -/
def M.up (m : M) (l : Nat) : M := ⟨m.w, fun j i => m.ρ (j + l) i, m.U⟩
theorem M.up_zero (m : M) : m.up 0 = m := rfl
theorem Keep.up {m m' : M} (h : Keep m m') (l : Nat) : Keep (m.up l) (m'.up l) := ⟨fun j i v e => h.ρ (j + l) i v e, h.size, h.plain⟩
/-- What a block's name says. -/
def BlkOk (m : M) (l i : Nat) : Blk → Prop
  | .dead => True
  | .box cs => ∀ v, m.ρ l i = some v → ∃ g vs e, v = .pointer (some ⟨g, 0, none⟩) ∧ m.w.heap[g]? = some (.cells vs e (0, 0)) ∧ vs.size = cs.length ∧ ∀ (j : Nat) p u, cs[j]? = some p → vs[j]? = some u → RP (m.up l) p u
  | .row e sz xs => ∀ v, m.ρ l i = some v → 0 < sz ∧ (∀ x ∈ xs, x.length = sz) ∧ ∃ flat, m.w.ownsRow 0 e sz v xs.length flat ∧
      ∀ (i : Nat) x (j : Nat) y u, xs[i]? = some x → x[j]? = some y → flat[i * sz + j]? = some u → RD m.w m.ok y u

structure Inv (m : M) (top : List Blk) (H : List (List Blk)) : Prop where
  blk : ∀ l i b, getB top H l i = some b → BlkOk m l i b
  inj : ∀ l i b l' i' b' v v' k, getB top H l i = some b → b.live = true → getB top H l' i' = some b' → b'.live = true → m.ρ l i = some v → m.ρ l' i' = some v' →
    blkOf v = some k → blkOf v' = some k → l = l' ∧ i = i'
  own : ∀ l i b v k, getB top H l i = some b → b.live = true → m.ρ l i = some v → blkOf v = some k → m.U k
  lt : ∀ k, m.U k → k < m.w.heap.size

/-- Memory is only added to: every block stays. -/
structure Grow (m m' : M) : Prop where
  os : m'.w.os = m.w.os
  tape : m'.w.tape = m.w.tape
  output : m'.w.output = m.w.output
  size : m.w.heap.size ≤ m'.w.heap.size
  heap : ∀ k, k < m.w.heap.size → m'.w.heap[k]? = m.w.heap[k]?
  ρ : ∀ l i v, m.ρ l i = some v → m'.ρ l i = some v
  U : ∀ k, k < m.w.heap.size → (m'.U k ↔ m.U k)

theorem Grow.refl (m : M) : Grow m m := ⟨rfl, rfl, rfl, Nat.le_refl _, fun _ _ => rfl, fun _ _ _ h => h, fun _ _ => Iff.rfl⟩
theorem Grow.trans {m m' m'' : M} (h : Grow m m') (k : Grow m' m'') : Grow m m'' :=
  ⟨k.os.trans h.os, k.tape.trans h.tape, k.output.trans h.output, Nat.le_trans h.size k.size,
   fun j hj => (k.heap j (Nat.lt_of_lt_of_le hj h.size)).trans (h.heap j hj), fun l i v e => k.ρ l i v (h.ρ l i v e),
   fun j hj => (k.U j (Nat.lt_of_lt_of_le hj h.size)).trans (h.U j hj)⟩
theorem Grow.keep {m m' : M} (h : Grow m m') : Keep m m' := ⟨h.ρ, h.size, fun k hk => ⟨fun hu => hk.2 ((h.U k hk.1).1 hu), h.heap k hk.1⟩⟩
theorem ownsRow_same {w w' : World} {base e size n : Nat} {v : Value} {xs : List Value} (h : w.ownsRow base e size v n xs) (hh : ∀ k, blkOf v = some k → w'.heap[k]? = w.heap[k]?) : w'.ownsRow base e size v n xs := by
  obtain ⟨h1, h2⟩ := h
  refine ⟨h1, ?_⟩
  rcases h2 with h2 | ⟨g, cap, cur, rfl, hb, hg, r⟩
  · exact .inl h2
  · exact .inr ⟨g, cap, cur, rfl, hb, (hh g rfl).trans hg, r⟩
theorem BlkOk.keep {m m' : M} (h : Keep m m') {l i : Nat} {b : Blk} (hρ : m'.ρ l i = m.ρ l i) (hh : ∀ v k, b.live = true → m.ρ l i = some v → blkOf v = some k → m'.w.heap[k]? = m.w.heap[k]?) (hb : BlkOk m l i b) : BlkOk m' l i b := by
  cases b with
  | dead => trivial
  | box cs =>
    intro v hv
    rw [hρ] at hv
    obtain ⟨g, vs, e, rfl, hg, hs, hc⟩ := hb v hv
    exact ⟨g, vs, e, rfl, (hh _ g rfl hv rfl).trans hg, hs, fun j p u hj hu => (hc j p u hj hu).keep (h.up l)⟩
  | row e sz xs =>
    intro v hv
    rw [hρ] at hv
    obtain ⟨h0, h1, flat, ho, hc⟩ := hb v hv
    exact ⟨h0, h1, flat, ownsRow_same ho (fun k hk => hh v k rfl hv hk), fun i x j y u hx hy hu => (hc i x j y u hx hy hu).keep h⟩
end Go.Proofs.Ve
