/- The value machine's steps, each as what it asks (Props that unfold by computing). -/
import Derived.Test.YtpmhiiembbfbeaaV1
set_option linter.all false
namespace Go.Proofs.Ve
open Go

inductive Ty where
  | bool | int (k : IntKind) | str | slice (e : Nat) | struct (fs : List (Nat × Nat)) | arr (n e : Nat) | other
def tyOf : TypeDesc → Ty
  | .bool => .bool | .int k => .int k | .string => .str | .slice e => .slice e
  | .struct fs => .struct (fs.toList.map fun f => (f.offset, f.type)) | .array n e => .arr n e | _ => .other
def Ty.isAgg : Ty → Bool
  | .struct _ | .arr _ _ => true
  | _ => false
structure TyRow where
  t : Nat
  ty : Ty
  size : Nat
  bytes : Nat
  zero : List PV
def pvZero : Value → PV
  | .bool b => .kb b | .int k n => .d (.int k n) | .string s => .d (.str s) | .slice none 0 0 => .nils | _ => .any
def RowOk (P : Program) (r : TyRow) : Prop :=
  ((P.info? r.t).map fun i => (i.size, i.bytes, i.zero.map fun z => z.cells.toList.map pvZero)) = some (r.size, r.bytes, some r.zero) ∧ (P.underlying r.t).map tyOf = some r.ty
/-- does an operation turn memory? -/
def Op.turns (gv : List Nat) : Op → Bool
  | .store .. => true
  | .call c => (match c.callee with | .builtin .append => true | .value (.func f) => gv.any (Nat.beq f) | _ => false)
  | _ => false
/-- operations that never look at memory -/
def pureOp : Op → Bool
  | .move _ | .assign _ | .extract .. | .fieldAddr .. => true
  | _ => false
def lateB (gv : List Nat) (ops : List Oper) (j : Nat) : Bool := (ops.take (j + 1)).any fun o => Op.turns gv o.op
/-- what an operation waits for, as bits -/
def anc1 (T : List Nat) (o : Oper) : Nat := o.after.toList.foldl (fun s e => bif Region.binds .any e then Nat.lor (Nat.lor s (Nat.shiftLeft 1 e.on)) (T.getD e.on 0) else s) 0
def ancs (ops : List Oper) : List Nat := ops.foldl (fun T o => T ++ [anc1 T o]) []
def bitB (T : List Nat) (j i : Nat) : Bool := Nat.testBit (T.getD j 0) i
/-- Whatever order is drawn comes to the same: what depends stands in order, and so does what follows a turn of memory. -/
def drawAt (gv : List Nat) (ops : Array Oper) (T : List Nat) : Bool :=
  (List.range ops.size).all fun j => match ops[j]? with
    | none => true
    | some oj => (oj.after.all fun e => !Region.binds .any e || Nat.blt e.on j) && Nat.beq (T.getD j 0) (anc1 T oj) && (List.range j).all fun i => bitB T j i || match ops[i]? with
      | none => true
      | some oi => oi.apart ops oj && (pureOp oi.op || pureOp oj.op || !lateB gv ops.toList j)
def drawOk (gv : List Nat) (ops : Array Oper) : Bool := drawAt gv ops (ancs ops.toList)
def drawsOk (gv : List Nat) : Code → Bool
  | .region _ ops draw => !draw || drawOk gv ops
  | .seq a b => drawsOk gv a && drawsOk gv b
  | .cond _ a b => drawsOk gv a && drawsOk gv b
  | .block _ a => drawsOk gv a
  | .loop a => drawsOk gv a
  | .scope a => drawsOk gv a
  | _ => true
/-- The program, and its types' rows. -/
structure Cx where
  P : Program
  L : List TyRow
  n : Nat
  no : List Nat
  bad : List Nat
  /-- functions to which rows are given, for good or to be turned -/
  give : List Nat
  /-- internal/bytealg.Compare -/
  cmp : List Nat
  /-- slices.Grow, at which type of elements -/
  grow : List (Nat × Nat)
/-- functions with a Go body, that the model takes for nothing else -/
def Cx.plain (C : Cx) (f : Nat) : Bool := Nat.blt f C.n && !(C.no.any (Nat.beq f))
/-- functions whose drawn regions are as asked -/
def Cx.good (C : Cx) (f : Nat) : Bool := Nat.blt f C.n && !(C.bad.any (Nat.beq f))
def goodB (P : Program) (n : Nat) (bad gv : List Nat) : Bool :=
  (List.range n).all fun f => bad.any (Nat.beq f) || (match P.funcs[f]? with | some fn => (match fn.body with | some c => drawsOk gv c | none => true) | none => false)
def funsB (P : Program) (n : Nat) (no : List Nat) : Bool :=
  (List.range n).all fun f => no.any (Nat.beq f) || (match P.funcs[f]? with | some fn => fn.body.isSome && !(fn.name == "runtime.NumGoroutine") | none => false)
def closedB (L : List TyRow) : Bool := L.all fun r => match r.ty with | .struct fs => (fs.all fun x => L.any fun r' => Nat.beq r'.t x.2) | .arr _ e => (L.any fun r' => Nat.beq r'.t e) | _ => true
def CmpOk (P : Program) (f : Nat) : Prop := ∀ (a b : Value) (w : World), (callFunc f #[a, b]).run P w = ((Extern.BytealgCompare.compare #[a, b]).run P w).andThen fun v w => .ok (.value v) w
def GrowOk (P : Program) (f e : Nat) : Prop := ∀ (n : Nat) (w : World),
  (n = 0 → Calls P f #[.slice none 0 0, .int .i64 n] w fun e' w' => e' = .returned (.slice none 0 0) ∧ w' = w) ∧
  ∀ i z, P.info? e = some i → i.zero = some z → 0 < i.size → z.cells.size = i.size → 0 < n → n * i.bytes ≤ 140737488355328 → n ≤ 4611686018427387904 →
    Calls P f #[.slice none 0 0, .int .i64 n] w fun e' w' => ∃ c cur, e' = .returned (.slice (some ⟨w.heap.size, 0, none⟩) 0 c) ∧ w' = w.drew.alloc (.cells cur e (0, 0)) ∧ cur.size = c * i.size ∧ c ≤ maxLen
structure Cx.Ok (C : Cx) : Prop where
  rows : ∀ r ∈ C.L, RowOk C.P r
  closed : closedB C.L = true
  funs : funsB C.P C.n C.no = true
  mix : C.P.follows .mixedOrders = true
  draws : goodB C.P C.n C.bad C.give = true
  cmps : ∀ f ∈ C.cmp, CmpOk C.P f
  grows : ∀ p ∈ C.grow, GrowOk C.P p.1 p.2

def ifK (b : Bool) (K : Prop) : Prop := match b with | true => K | false => False

/-! ### lists, by computing -/
section
variable {α : Type}
def getK (xs : List α) (n : Nat) (K : α → Prop) : Prop :=
  List.rec (motive := fun _ => Nat → Prop) (fun _ => False) (fun x _ ih n => Nat.rec (motive := fun _ => Prop) (K x) (fun m _ => ih m) n) xs n
theorem getK_nil (n : Nat) (K : α → Prop) : getK [] n K = False := rfl
theorem getK_zero (x : α) (xs : List α) (K : α → Prop) : getK (x :: xs) 0 K = K x := rfl
theorem getK_succ (x : α) (xs : List α) (n : Nat) (K : α → Prop) : getK (x :: xs) (n + 1) K = getK xs n K := rfl
theorem getK_spec {xs : List α} {n : Nat} {K : α → Prop} : getK xs n K ↔ ∃ x, xs[n]? = some x ∧ K x := by
  induction xs generalizing n with
  | nil => simp [getK_nil]
  | cons x xs ih => cases n with
    | zero => simp [getK_zero]
    | succ n => simp [getK_succ, ih]
def setK (xs : List α) (n : Nat) (v : α) (K : List α → Prop) : Prop :=
  List.rec (motive := fun _ => Nat → (List α → Prop) → Prop) (fun _ _ => False) (fun x xs ih n => Nat.rec (motive := fun _ => (List α → Prop) → Prop) (fun K => K (v :: xs)) (fun m _ K => ih m fun ys => K (x :: ys)) n) xs n K
theorem setK_nil (n : Nat) (v : α) (K : List α → Prop) : setK [] n v K = False := rfl
theorem setK_zero (x : α) (xs : List α) (v : α) (K : List α → Prop) : setK (x :: xs) 0 v K = K (v :: xs) := rfl
theorem setK_succ (x : α) (xs : List α) (n : Nat) (v : α) (K : List α → Prop) : setK (x :: xs) (n + 1) v K = setK xs n v fun ys => K (x :: ys) := rfl
theorem setK_spec {xs : List α} {n : Nat} {v : α} {K : List α → Prop} : setK xs n v K ↔ n < xs.length ∧ K (xs.set n v) := by
  induction xs generalizing n K with
  | nil => simp [setK_nil]
  | cons x xs ih => cases n with
    | zero => simp [setK_zero]
    | succ n => simp [setK_succ, ih]
def snocK (xs : List α) (v : α) (K : List α → Prop) : Prop :=
  List.rec (motive := fun _ => (List α → Prop) → Prop) (fun K => K [v]) (fun x _ ih K => ih fun ys => K (x :: ys)) xs K
theorem snocK_nil (v : α) (K : List α → Prop) : snocK [] v K = K [v] := rfl
theorem snocK_cons (x : α) (xs : List α) (v : α) (K : List α → Prop) : snocK (x :: xs) v K = snocK xs v fun ys => K (x :: ys) := rfl
theorem snocK_spec {xs : List α} {v : α} {K : List α → Prop} : snocK xs v K ↔ K (xs ++ [v]) := by
  induction xs generalizing K with
  | nil => simp [snocK_nil]
  | cons x xs ih => simp [snocK_cons, ih]
def lenK (xs : List α) (K : Nat → Prop) : Prop :=
  List.rec (motive := fun _ => (Nat → Prop) → Prop) (fun K => K 0) (fun _ _ ih K => ih fun n => K (n + 1)) xs K
theorem lenK_nil (K : Nat → Prop) : lenK ([] : List α) K = K 0 := rfl
theorem lenK_cons (x : α) (xs : List α) (K : Nat → Prop) : lenK (x :: xs) K = lenK xs fun n => K (n + 1) := rfl
theorem lenK_spec {xs : List α} {K : Nat → Prop} : lenK xs K ↔ K xs.length := by
  induction xs generalizing K with
  | nil => simp [lenK_nil]
  | cons x xs ih => simp [lenK_cons, ih]
def dropK (xs : List α) (n : Nat) (K : List α → Prop) : Prop :=
  List.rec (motive := fun _ => Nat → Prop) (fun n => Nat.rec (motive := fun _ => Prop) (K []) (fun _ _ => False) n) (fun x xs ih n => Nat.rec (motive := fun _ => Prop) (K (x :: xs)) (fun m _ => ih m) n) xs n
theorem dropK_zero (xs : List α) (K : List α → Prop) : dropK xs 0 K = K xs := by cases xs <;> rfl
theorem dropK_nil (n : Nat) (K : List α → Prop) : dropK [] (n + 1) K = False := rfl
theorem dropK_succ (x : α) (xs : List α) (n : Nat) (K : List α → Prop) : dropK (x :: xs) (n + 1) K = dropK xs n K := rfl
theorem dropK_spec {xs : List α} {n : Nat} {K : List α → Prop} : dropK xs n K ↔ n ≤ xs.length ∧ K (xs.drop n) := by
  induction xs generalizing n K with
  | nil => cases n <;> simp [dropK_zero, dropK_nil]
  | cons x xs ih => cases n with
    | zero => simp [dropK_zero]
    | succ n => simp [dropK_succ, ih]
def takeK (xs : List α) (n : Nat) (K : List α → Prop) : Prop :=
  List.rec (motive := fun _ => Nat → (List α → Prop) → Prop) (fun n K => Nat.rec (motive := fun _ => Prop) (K []) (fun _ _ => False) n) (fun x _ ih n K => Nat.rec (motive := fun _ => Prop) (K []) (fun m _ => ih m fun ys => K (x :: ys)) n) xs n K
theorem takeK_zero (xs : List α) (K : List α → Prop) : takeK xs 0 K = K [] := by cases xs <;> rfl
theorem takeK_nil (n : Nat) (K : List α → Prop) : takeK [] (n + 1) K = False := rfl
theorem takeK_succ (x : α) (xs : List α) (n : Nat) (K : List α → Prop) : takeK (x :: xs) (n + 1) K = takeK xs n fun ys => K (x :: ys) := rfl
theorem takeK_spec {xs : List α} {n : Nat} {K : List α → Prop} : takeK xs n K ↔ n ≤ xs.length ∧ K (xs.take n) := by
  induction xs generalizing n K with
  | nil => cases n <;> simp [takeK_zero, takeK_nil]
  | cons x xs ih => cases n with
    | zero => simp [takeK_zero]
    | succ n => simp [takeK_succ, ih]
def appK (xs ys : List α) (K : List α → Prop) : Prop :=
  List.rec (motive := fun _ => (List α → Prop) → Prop) (fun K => K ys) (fun x _ ih K => ih fun zs => K (x :: zs)) xs K
theorem appK_nil (ys : List α) (K : List α → Prop) : appK [] ys K = K ys := rfl
theorem appK_cons (x : α) (xs ys : List α) (K : List α → Prop) : appK (x :: xs) ys K = appK xs ys fun zs => K (x :: zs) := rfl
theorem appK_spec {xs ys : List α} {K : List α → Prop} : appK xs ys K ↔ K (xs ++ ys) := by
  induction xs generalizing K with
  | nil => simp [appK_nil]
  | cons x xs ih => simp [appK_cons, ih]
/-- the sublist from o on, of n -/
def subK (xs : List α) (o n : Nat) (K : List α → Prop) : Prop := dropK xs o fun ys => takeK ys n K
theorem subK_spec {xs : List α} {o n : Nat} {K : List α → Prop} : subK xs o n K ↔ o + n ≤ xs.length ∧ K ((xs.drop o).take n) := by
  simp only [subK, dropK_spec, takeK_spec, List.length_drop]
  constructor
  · rintro ⟨a, b, c⟩; exact ⟨by omega, c⟩
  · rintro ⟨a, c⟩; exact ⟨by omega, by omega, c⟩
/-- ys in the place of what stands from o on -/
def putK (xs : List α) (o : Nat) (ys : List α) (K : List α → Prop) : Prop :=
  List.rec (motive := fun _ => Nat → List α → (List α → Prop) → Prop)
    (fun o ys K => Nat.rec (motive := fun _ => Prop) (List.rec (motive := fun _ => Prop) (K []) (fun _ _ _ => False) ys) (fun _ _ => False) o)
    (fun x xs ih o ys K => Nat.rec (motive := fun _ => Prop) (List.rec (motive := fun _ => Prop) (K (x :: xs)) (fun y ys _ => ih 0 ys fun zs => K (y :: zs)) ys) (fun m _ => ih m ys fun zs => K (x :: zs)) o) xs o ys K
theorem putK_done (xs : List α) (K : List α → Prop) : putK xs 0 [] K = K xs := by cases xs <;> rfl
theorem putK_nil (y : α) (ys : List α) (K : List α → Prop) : putK [] 0 (y :: ys) K = False := rfl
theorem putK_zero (x : α) (xs : List α) (y : α) (ys : List α) (K : List α → Prop) : putK (x :: xs) 0 (y :: ys) K = putK xs 0 ys fun zs => K (y :: zs) := rfl
theorem putK_none (n : Nat) (ys : List α) (K : List α → Prop) : putK [] (n + 1) ys K = False := rfl
theorem putK_succ (x : α) (xs : List α) (n : Nat) (ys : List α) (K : List α → Prop) : putK (x :: xs) (n + 1) ys K = putK xs n ys fun zs => K (x :: zs) := rfl
theorem putK_spec {xs : List α} {o : Nat} {ys : List α} {K : List α → Prop} : putK xs o ys K ↔ o + ys.length ≤ xs.length ∧ K (xs.take o ++ ys ++ xs.drop (o + ys.length)) := by
  induction xs generalizing o ys K with
  | nil => cases o <;> cases ys <;> simp [putK_done, putK_nil, putK_none]
  | cons x xs ih =>
    cases o with
    | zero => cases ys with
      | nil => simp [putK_done]
      | cons y ys => simp [putK_zero, ih, Nat.add_comm]
    | succ o =>
      simp only [putK_succ, ih, List.length_cons, List.take_succ_cons, List.cons_append]
      rw [show o + 1 + ys.length = (o + ys.length) + 1 by omega, List.drop_succ_cons]
      constructor <;> rintro ⟨a, b⟩ <;> exact ⟨by omega, b⟩
def lookK (L : List TyRow) (t : Nat) (K : TyRow → Prop) : Prop :=
  List.rec (motive := fun _ => Prop) False (fun r _ ih => match Nat.beq r.t t with | true => K r | false => ih) L
theorem lookK_cons (r : TyRow) (rs : List TyRow) (t : Nat) (K : TyRow → Prop) : lookK (r :: rs) t K = match Nat.beq r.t t with | true => K r | false => lookK rs t K := rfl
theorem lookK_spec {L : List TyRow} {t : Nat} {K : TyRow → Prop} (h : lookK L t K) : ∃ r, r ∈ L ∧ r.t = t ∧ K r := by
  induction L with
  | nil => exact h.elim
  | cons r rs ih =>
    rw [lookK_cons] at h
    split at h
    · rename_i hb; exact ⟨r, List.mem_cons_self, Nat.eq_of_beq_eq_true hb, h⟩
    · obtain ⟨r', a, b, c⟩ := ih h; exact ⟨r', List.mem_cons_of_mem _ a, b, c⟩
end

/-! ### operands and values -/
def constPV : Value → PV
  | .bool b => .kb b | .int k n => .d (.int k n) | .string s => .d (.str s) | .slice none 0 0 => .nils | _ => .any
def evK (tm : List PV) : Operand → (PV → Prop) → Prop
  | .tmp t, K => getK tm t K
  | .const v, K => (match v with | .bool b => K (.kb b) | .int k n => K (.d (.int k n)) | .string s => K (.d (.str s)) | .slice none 0 0 => K .nils | _ => K .any)
  | .func f, K => K (.func (.func f) [] [])
  | .global _, K => K .any
def evsK (tm : List PV) (xs : List Operand) (K : List PV → Prop) : Prop :=
  List.rec (motive := fun _ => (List PV → Prop) → Prop) (fun K => K []) (fun x _ ih K => evK tm x fun p => ih fun ps => K (p :: ps)) xs K
theorem evsK_nil (tm : List PV) (K : List PV → Prop) : evsK tm [] K = K [] := rfl
theorem evsK_cons (tm : List PV) (x : Operand) (xs : List Operand) (K : List PV → Prop) : evsK tm (x :: xs) K = evK tm x fun p => evsK tm xs fun ps => K (p :: ps) := rfl
/-- one cell each -/
def allCellK (ps : List PV) (K : Prop) : Prop :=
  List.rec (motive := fun _ => Prop) K (fun p _ ih => match p.cell with | true => ih | false => False) ps
theorem allCellK_nil (K : Prop) : allCellK [] K = K := rfl
theorem allCellK_cons (p : PV) (ps : List PV) (K : Prop) : allCellK (p :: ps) K = match p.cell with | true => allCellK ps K | false => False := rfl
def cellsK (p : PV) (K : List PV → Prop) : Prop :=
  match p with
  | .any | .tuple _ => False
  | .agg cs => allCellK cs (K cs)
  | p => K [p]
/-- plain data -/
def dvK (p : PV) (K : DV → Prop) : Prop :=
  match p with
  | .d x => K x | .kb b => K (.bool b) | .nils => K (.sl []) | _ => False
def dvsK (ps : List PV) (K : List DV → Prop) : Prop :=
  List.rec (motive := fun _ => (List DV → Prop) → Prop) (fun K => K []) (fun p _ ih K => dvK p fun x => ih fun xs => K (x :: xs)) ps K
theorem dvsK_nil (K : List DV → Prop) : dvsK [] K = K [] := rfl
theorem dvsK_cons (p : PV) (ps : List PV) (K : List DV → Prop) : dvsK (p :: ps) K = dvK p fun x => dvsK ps fun xs => K (x :: xs) := rfl
def pvsK (xs : List DV) (K : List PV → Prop) : Prop :=
  List.rec (motive := fun _ => (List PV → Prop) → Prop) (fun K => K []) (fun x _ ih K => ih fun ps => K (.d x :: ps)) xs K
theorem pvsK_nil (K : List PV → Prop) : pvsK [] K = K [] := rfl
theorem pvsK_cons (x : DV) (xs : List DV) (K : List PV → Prop) : pvsK (x :: xs) K = pvsK xs fun ps => K (.d x :: ps) := rfl
def blkK (top : List Blk) (H : List (List Blk)) (l i : Nat) (K : Blk → Prop) : Prop :=
  match l with
  | 0 => getK top i K
  | l + 1 => getK H l fun t => getK t i K
def newK (top : List Blk) (b : Blk) (K : Nat → List Blk → Prop) : Prop := lenK top fun i => snocK top b fun top' => K i top'
def wholeK (r : TyRow) (ys : List PV) (K : PV → Prop) : Prop :=
  match r.ty.isAgg with
  | true => K (.agg ys)
  | false => match ys with | [y] => K y | _ => False
/-- out of another frame comes no name of a block -/
def nearK (l : Nat) (ys : List PV) (K : Prop) : Prop :=
  match l with
  | 0 => K
  | _ + 1 => ifK (ys.all PV.inv) K
def loadK (C : Cx) (H : List (List Blk)) (top : List Blk) (t : Nat) (p : PV) (K : PV → Prop) : Prop :=
  lookK C.L t fun r => match p with
  | .ptr l i o => blkK top H l i fun b => match b with | .box cs => subK cs o r.size fun ys => nearK l ys (wholeK r ys K) | _ => False
  | .rptr l i sz e j => blkK top H l i fun b => match b with | .row _ sz' xs => ifK (Nat.beq sz' sz) (∃ x, xs[e]? = some x ∧ subK x j r.size fun ys => pvsK ys fun ps => wholeK r ps K) | _ => False
  | .iptr cs => subK cs 0 r.size fun ys => pvsK ys fun ps => wholeK r ps K
  | _ => False
def kNum : IntKind → Nat
  | .i8 => 0 | .i16 => 1 | .i32 => 2 | .i64 => 3 | .u8 => 4 | .u16 => 5 | .u32 => 6 | .u64 => 7
def kEq (a b : IntKind) : Bool := Nat.beq (kNum a) (kNum b)
theorem kEq_eq {a b : IntKind} (h : kEq a b = true) : a = b := by
  have := Nat.eq_of_beq_eq_true h
  cases a <;> cases b <;> simp [kNum] at this <;> rfl
/-- bools, as far as they are known -/
def pickK (c : PV) (a b : PV) (K : PV → Prop) : Prop :=
  match c with
  | .kb true => K a
  | .kb false => K b
  | .d (.bool c) => (match a, b with
    | .d (.bool x), .d (.bool y) => K (.d (.bool (bif c then x else y)))
    | .kb x, .d (.bool y) => K (.d (.bool (bif c then x else y)))
    | .d (.bool x), .kb y => K (.d (.bool (bif c then x else y)))
    | .kb x, .kb y => K (.d (.bool (bif c then x else y)))
    | _, _ => False)
  | _ => False
def intOpK (op : BinOp) (k : IntKind) (a b : Int) (K : PV → Prop) : Prop :=
  match op with
  | .add => ∀ z, z = k.wrap (a + b) → K (.d (.int k z))
  | .sub => ∀ z, z = k.wrap (a - b) → K (.d (.int k z))
  | .mul => ∀ z, z = k.wrap (a * b) → K (.d (.int k z))
  | .quo => b ≠ 0 ∧ ∀ z, z = k.wrap (a.tdiv b) → K (.d (.int k z))
  | .rem => b ≠ 0 ∧ ∀ z, z = a.tmod b → K (.d (.int k z))
  | .and => ∀ z, z = k.wrap (BitVec.ofInt k.bits a &&& BitVec.ofInt k.bits b).toNat → K (.d (.int k z))
  | .or => ∀ z, z = k.wrap (BitVec.ofInt k.bits a ||| BitVec.ofInt k.bits b).toNat → K (.d (.int k z))
  | .xor => ∀ z, z = k.wrap (BitVec.ofInt k.bits a ^^^ BitVec.ofInt k.bits b).toNat → K (.d (.int k z))
  | .eql => K (.d (.bool (a == b)))
  | .neq => K (.d (.bool (a != b)))
  | .lss => K (.d (.bool (decide (a < b))))
  | .leq => K (.d (.bool (decide (a ≤ b))))
  | .gtr => K (.d (.bool (decide (a > b))))
  | .geq => K (.d (.bool (decide (a ≥ b))))
  | _ => False
def strOpK (op : BinOp) (a b : ByteArray) (K : PV → Prop) : Prop :=
  match op with
  | .eql => K (.d (.bool (a.toList == b.toList)))
  | .neq => K (.d (.bool (!(a.toList == b.toList))))
  | .lss => K (.d (.bool (Op.bytesLess a.toList b.toList)))
  | .leq => K (.d (.bool (Op.bytesLess a.toList b.toList || a.toList == b.toList)))
  | .gtr => K (.d (.bool (!(Op.bytesLess a.toList b.toList || a.toList == b.toList))))
  | .geq => K (.d (.bool (!Op.bytesLess a.toList b.toList)))
  | _ => False
def boolOpK (op : BinOp) (a b : Bool) (K : PV → Prop) : Prop :=
  match op with
  | .eql => K (.d (.bool (a == b)))
  | .neq => K (.d (.bool (!(a == b))))
  | _ => False
def bool? : PV → Option Bool
  | .kb b => some b | .d (.bool b) => some b | _ => none
def isAggInts (C : Cx) (t : Nat) (n : Nat) (K : Prop) : Prop :=
  lookK C.L t fun r => match r.ty with
  | .arr n' e => n' = n ∧ lookK C.L e fun r' => r'.size = 1 ∧ (match r'.ty with | .int _ => K | _ => False)
  | _ => False
def nilCmpK (op : BinOp) (K : PV → Prop) : Prop :=
  match op with
  | .eql => K .ub
  | .neq => K .ub
  | _ => False
def boolsK (op : BinOp) (a : Bool) (q : PV) (K : PV → Prop) : Prop :=
  match q with
  | .d (.bool b) => boolOpK op a b K
  | .kb b => boolOpK op a b K
  | _ => False
def Ty.isBool : Ty → Bool
  | .bool => true
  | _ => false
def Ty.isSlice : Ty → Bool
  | .slice _ => true
  | _ => false
def binK (C : Cx) (op : BinOp) (t : Nat) (p q : PV) (K : PV → Prop) : Prop :=
  match p with
  | .d (.int k a) => (match q with | .d (.int k' b) => ifK (kEq k k') (intOpK op k a b K) | _ => False)
  | .d (.str a) => (match q with | .d (.str b) => strOpK op a b K | _ => False)
  | .d (.bool a) => lookK C.L t fun r => ifK r.ty.isBool (boolsK op a q K)
  | .kb a => lookK C.L t fun r => ifK r.ty.isBool (boolsK op a q K)
  | .d (.sl xs) => lookK C.L t fun r => ifK r.ty.isSlice (match q with | .nils => nilCmpK op K | _ => False)
  | _ => False
def idxK (C : Cx) (H : List (List Blk)) (top : List Blk) (t : Nat) (p : PV) (n : Int) (K : PV → Prop) : Prop :=
  lookK C.L t fun r => match r.ty with
  | .slice e => lookK C.L e fun r' => (match p with
    | .d (.sl xs) => 0 ≤ n ∧ ∃ y, xs[n.toNat]? = some y ∧ y.length = r'.size ∧ K (.iptr y)
    | .row l i m => blkK top H l i fun b => (match b with | .row _ sz _ => ifK (Nat.beq sz r'.size) (0 ≤ n ∧ n < (m : Int) ∧ K (.rptr l i r'.size n.toNat 0)) | _ => False)
    | _ => False)
  | .arr len e => lookK C.L e fun r' => (match p with
    | .ptr l i o => 0 ≤ n ∧ n < (len : Int) ∧ ∃ k : Nat, n = k ∧ K (.ptr l i (o + k * r'.size))
    | .rptr l i sz e' j => 0 ≤ n ∧ n < (len : Int) ∧ ∃ k : Nat, n = k ∧ K (.rptr l i sz e' (j + k * r'.size))
    | .iptr cs => 0 ≤ n ∧ n < (len : Int) ∧ ∃ k : Nat, n = k ∧ dropK cs (k * r'.size) fun ys => K (.iptr ys)
    | _ => False)
  | _ => False
def fieldK (C : Cx) (t : Nat) (p : PV) (fld : Nat) (K : PV → Prop) : Prop :=
  lookK C.L t fun r => match r.ty with
  | .struct fs => getK fs fld fun (o, ft) => lookK C.L ft fun r' => ifK (Nat.blt 0 r'.size) (match p with
    | .ptr l i o' => K (.ptr l i (o' + o))
    | .rptr l i sz e j => K (.rptr l i sz e (j + o))
    | .iptr cs => dropK cs o fun ys => K (.iptr ys)
    | _ => False)
  | _ => False
def buildK (C : Cx) (tm : List PV) (place : Nat → (Nat → Nat → Prop) → Prop) (parts : List (Nat × Operand)) (cs : List PV) (K : List PV → Prop) : Prop :=
  List.rec (motive := fun _ => List PV → Prop) (fun cs => K cs) (fun ix _ ih cs => evK tm ix.2 fun p => cellsK p fun ys => place ix.1 fun o sz => lenK ys fun n => ifK (Nat.beq n sz) (putK cs o ys fun cs' => ih cs')) parts cs
theorem buildK_nil (C : Cx) (tm : List PV) (place : Nat → (Nat → Nat → Prop) → Prop) (cs : List PV) (K : List PV → Prop) : buildK C tm place [] cs K = K cs := rfl
theorem buildK_cons (C : Cx) (tm : List PV) (place : Nat → (Nat → Nat → Prop) → Prop) (i : Nat) (x : Operand) (rest : List (Nat × Operand)) (cs : List PV) (K : List PV → Prop) :
    buildK C tm place ((i, x) :: rest) cs K = evK tm x fun p => cellsK p fun ys => place i fun o sz => lenK ys fun n => ifK (Nat.beq n sz) (putK cs o ys fun cs' => buildK C tm place rest cs' K) := rfl
def placeK (C : Cx) (ty : Ty) (i : Nat) (K : Nat → Nat → Prop) : Prop :=
  match ty with
  | .struct fs => getK fs i fun (o, ft) => lookK C.L ft fun r' => K o r'.size
  | .arr _ e => lookK C.L e fun r' => K (i * r'.size) r'.size
  | _ => False
def elemsK (tm : List PV) (size n : Nat) (parts : List (Nat × Operand)) (K : List (List DV) → Prop) : Prop :=
  List.rec (motive := fun _ => Nat → (List (List DV) → Prop) → Prop) (fun _ K => K []) (fun ix _ ih n K => ifK (Nat.beq ix.1 n) (evK tm ix.2 fun p => cellsK p fun ys => lenK ys fun m => ifK (Nat.beq m size) (dvsK ys fun ds => ih (n + 1) fun es => K (ds :: es)))) parts n K
theorem elemsK_nil (tm : List PV) (size n : Nat) (K : List (List DV) → Prop) : elemsK tm size n [] K = K [] := rfl
theorem elemsK_cons (tm : List PV) (size n i : Nat) (x : Operand) (rest : List (Nat × Operand)) (K : List (List DV) → Prop) :
    elemsK tm size n ((i, x) :: rest) K = ifK (Nat.beq i n) (evK tm x fun p => cellsK p fun ys => lenK ys fun m => ifK (Nat.beq m size) (dvsK ys fun ds => elemsK tm size (n + 1) rest fun es => K (ds :: es))) := rfl
def cutK (size : Nat) (xs : List (List DV)) (lo hi : Option PV) (K : PV → Prop) : Prop :=
  match lo, hi with
  | none, none => K (.d (.sl xs))
  | none, some (.d (.int _ h)) => 0 ≤ h ∧ h ≤ (xs.length : Int) ∧ K (.d (.sl (xs.take h.toNat)))
  | some (.d (.int _ l)), none => (∀ x ∈ xs, x.length = size) ∧ 0 ≤ l ∧ l ≤ (xs.length : Int) ∧ K (.d (.sl (xs.drop l.toNat)))
  | some (.d (.int _ l)), some (.d (.int _ h)) => (∀ x ∈ xs, x.length = size) ∧ 0 ≤ l ∧ l ≤ h ∧ h ≤ (xs.length : Int) ∧ K (.d (.sl ((xs.take h.toNat).drop l.toNat)))
  | _, _ => False
def sliceK (size : Nat) (p : PV) (lo hi : Option PV) (K : PV → Prop) : Prop :=
  match p with
  | .d (.sl xs) => cutK size xs lo hi K
  | .row l i n => (match lo, hi with
    | none, some (.d (.int _ h)) => 0 ≤ h ∧ h ≤ (n : Int) ∧ K (.row l i h.toNat)
    | _, _ => False)
  | _ => False
def optEvK (tm : List PV) : Option Operand → (Option PV → Prop) → Prop
  | none, K => K none
  | some x, K => evK tm x fun p => K (some p)
def convK (C : Cx) (src dst : Nat) (p : PV) (K : PV → Prop) : Prop :=
  lookK C.L src fun rs => lookK C.L dst fun rd => match p with
  | .d (.int k n) => (match rd.ty with | .int k' => (match rs.ty with | .int _ => ∀ z, z = k'.wrap n → K (.d (.int k' z)) | _ => False) | _ => False)
  | .d (.str s) => (match rs.ty, rd.ty with
    | .str, .slice e => lookK C.L e fun re => (match re.ty with | .int .u8 => re.size = 1 ∧ s.size ≤ 140737488355328 ∧ K (.d (.sl (s.data.toList.map fun b => [.int .u8 b.toNat]))) | _ => False)
    | _, _ => False)
  | .d (.sl xs) => (match rs.ty, rd.ty with
    | .slice e, .str => lookK C.L e fun re => (match re.ty with | .int .u8 => ∃ bs : List UInt8, xs = bs.map (fun b => [DV.int .u8 b.toNat]) ∧ K (.d (.str ⟨bs.toArray⟩)) | _ => False)
    | _, _ => False)
  | _ => False
end Go.Proofs.Ve
