/- The value machine: an operation, a region, code, a call. -/
import Derived.Test.YtpmhiiembbfbeaaV2
set_option linter.all false
namespace Go.Proofs.Ve
open Go

structure RowB where
  e : Nat
  sz : Nat
  xs : List (List DV)
def RowB.blk (r : RowB) : Blk := .row r.e r.sz r.xs

/-- A call of f with these values, in whatever world: it returns r, the rows N being its own, and turns nothing. -/
@[irreducible] def CallEq (C : Cx) (H : List (List Blk)) (f : Nat) (args : List PV) (r : PV) (N : List RowB) : Prop :=
  ∀ (m : M) (vs : Array Value), Inv m [] H → (∀ i, m.ρ 0 i = none) → args.length = vs.size → (∀ (j : Nat) p v, args[j]? = some p → vs[j]? = some v → RP m p v) →
    Calls C.P f vs m.w fun e w' => ∃ v m', e = .returned v ∧ m'.w = w' ∧ Grow m m' ∧ (∀ l i, m'.ρ (l + 1) i = m.ρ (l + 1) i) ∧ (∀ j u k, m'.ρ 0 j = some u → blkOf u = some k → m.w.heap.size ≤ k) ∧ Inv m' (N.map RowB.blk) H ∧ RP m' r v

/-- A row, or what was one. -/
def gblk : Option RowB → Blk
  | none => .dead
  | some r => .row r.e r.sz r.xs
/-- m0 with the rows that a callee was given -/
structure M0 extends M where
  g : List Blk
/-- What the frame at hand holds of a block. -/
def Mine (m : M) (top : List Blk) (k : Nat) : Prop := ∃ i b v, top[i]? = some b ∧ b.live = true ∧ m.ρ 0 i = some v ∧ blkOf v = some k
/-- What a call has left as it was. -/
structure Since (m0 : M0) (m : M) : Prop where
  os : m.w.os = m0.w.os
  tape : m.w.tape = m0.w.tape
  output : m.w.output = m0.w.output
  size : m0.w.heap.size ≤ m.w.heap.size
  heap : ∀ k, k < m0.w.heap.size → ¬ Mine m0.toM m0.g k → m.w.heap[k]? = m0.w.heap[k]?
  up : ∀ l i, m.ρ (l + 1) i = m0.ρ (l + 1) i
  U : ∀ k, k < m0.w.heap.size → (m.U k ↔ m0.U k)
  fresh : ∀ j u k, m.ρ 0 j = some u → blkOf u = some k → m0.w.heap.size ≤ k ∨ Mine m0.toM m0.g k
/-- A call to which rows G are given: G' is what they come to, and N are new ones (or some of those, under new names: they are first). -/
@[irreducible] def CallEqG (C : Cx) (H : List (List Blk)) (f : Nat) (G : List RowB) (args : List PV) (G' : List (Option RowB)) (r : PV) (N : List RowB) : Prop :=
  G'.length = G.length ∧ ∀ (m : M) (vs : Array Value), Inv m (G.map RowB.blk) H → (∀ i, G.length ≤ i → m.ρ 0 i = none) → args.length = vs.size → (∀ (j : Nat) p v, args[j]? = some p → vs[j]? = some v → RP m p v) →
    Calls C.P f vs m.w fun e w' => ∃ v m', e = .returned v ∧ m'.w = w' ∧ Since ⟨m, G.map RowB.blk⟩ m' ∧ (∀ i, i < G.length → m'.ρ 0 (N.length + i) = m.ρ 0 i) ∧ Inv m' (N.map RowB.blk ++ G'.map gblk) H ∧ RP m' r v

/-- Values as a callee sees them, each by 'one'. -/
def argsF (one : PV → List Nat → (PV → List Nat → Prop) → Prop) (ps : List PV) (bs : List Nat) (K : List PV → List Nat → Prop) : Prop :=
  List.rec (motive := fun _ => List Nat → (List PV → List Nat → Prop) → Prop) (fun bs K => K [] bs) (fun p _ ih bs K => one p bs fun p' bs' => ih bs' fun ps' bs'' => K (p' :: ps') bs'') ps bs K
theorem argsF_nil (one : PV → List Nat → (PV → List Nat → Prop) → Prop) (bs : List Nat) (K : List PV → List Nat → Prop) : argsF one [] bs K = K [] bs := rfl
theorem argsF_cons (one : PV → List Nat → (PV → List Nat → Prop) → Prop) (p : PV) (ps : List PV) (bs : List Nat) (K : List PV → List Nat → Prop) : argsF one (p :: ps) bs K = one p bs fun p' bs' => argsF one ps bs' fun ps' bs'' => K (p' :: ps') bs'' := rfl
/-- A value as a callee sees it; the rows that it is lent. -/
def argOne (top : List Blk) (one : PV → List Nat → (PV → List Nat → Prop) → Prop) (p : PV) (bs : List Nat) (K : PV → List Nat → Prop) : Prop :=
  match p with
  | .any => K .any bs
  | .kb b => K (.d (.bool b)) bs
  | .ub => K .ub bs
  | .d x => K (.d x) bs
  | .nils => K (.d (.sl [])) bs
  | .row 0 i n => getK top i fun b => match b with | .row _ _ xs => K (.d (.sl (xs.take n))) (i :: bs) | _ => False
  | .row (_ + 1) _ _ => False
  | .ptr l i o => K (.ptr (l + 1) i o) bs
  | .rptr _ _ _ _ _ => False
  | .iptr cs => K (.iptr cs) bs
  | .func fn fs cs => argsF one fs bs fun fs' bs' => argsF one cs bs' fun cs' bs'' => K (.func fn fs' cs') bs''
  | .agg cs => argsF one cs bs fun cs' bs' => K (.agg cs') bs'
  | .tuple _ => False
def argF (top : List Blk) (n : Nat) : PV → List Nat → (PV → List Nat → Prop) → Prop :=
  Nat.rec (motive := fun _ => PV → List Nat → (PV → List Nat → Prop) → Prop) (fun _ _ _ => False) (fun _ ih => argOne top ih) n
def argK (top : List Blk) (p : PV) (bs : List Nat) (K : PV → List Nat → Prop) : Prop := argF top 8 p bs K
def argsK (top : List Blk) (ps : List PV) (bs : List Nat) (K : List PV → List Nat → Prop) : Prop := argsF (argF top 8) ps bs K
/-- the rows that were lent are not to be seen -/
def hideK (top : List Blk) (bs : List Nat) (K : List Blk → Prop) : Prop :=
  List.rec (motive := fun _ => (List Blk → Prop) → Prop) (fun K => K top) (fun i _ ih K => ih fun top' => setK top' i .dead K) bs K
theorem hideK_nil (top : List Blk) (K : List Blk → Prop) : hideK top [] K = K top := rfl
theorem hideK_cons (top : List Blk) (i : Nat) (is : List Nat) (K : List Blk → Prop) : hideK top (i :: is) K = hideK top is fun top' => setK top' i .dead K := rfl
/-- results, each by 'one' -/
def adoptsF (one : PV → (PV → Prop) → Prop) (ps : List PV) (K : List PV → Prop) : Prop :=
  List.rec (motive := fun _ => (List PV → Prop) → Prop) (fun K => K []) (fun p _ ih K => one p fun p' => ih fun ps' => K (p' :: ps')) ps K
theorem adoptsF_nil (one : PV → (PV → Prop) → Prop) (K : List PV → Prop) : adoptsF one [] K = K [] := rfl
theorem adoptsF_cons (one : PV → (PV → Prop) → Prop) (p : PV) (ps : List PV) (K : List PV → Prop) : adoptsF one (p :: ps) K = one p fun p' => adoptsF one ps fun ps' => K (p' :: ps') := rfl
/-- a result, its rows (of n) behind b others -/
def adoptOne (b n : Nat) (one : PV → (PV → Prop) → Prop) (p : PV) (K : PV → Prop) : Prop :=
  match p with
  | .d x => K (.d x)
  | .kb x => K (.kb x)
  | .nils => K .nils
  | .row 0 i m => ifK (Nat.blt i n) (K (.row 0 (b + i) m))
  | .agg cs => adoptsF one cs fun cs' => K (.agg cs')
  | .tuple cs => adoptsF one cs fun cs' => K (.tuple cs')
  | _ => False
def adoptF (b n k : Nat) : PV → (PV → Prop) → Prop :=
  Nat.rec (motive := fun _ => PV → (PV → Prop) → Prop) (fun _ _ => False) (fun _ ih => adoptOne b n ih) k
def adoptK (b n : Nat) (p : PV) (K : PV → Prop) : Prop := adoptF b n 8 p K
def DV.flat : DV → Bool
  | .sl (_ :: _) => false
  | _ => true
mutual
def PV.flat : PV → Bool
  | .d x => x.flat
  | .agg cs => flats cs
  | .tuple cs => flats cs
  | _ => true
def flats : List PV → Bool
  | [] => true
  | p :: ps => p.flat && flats ps
end
def FlatN (N : List RowB) : Prop := ∀ r ∈ N, ∀ x ∈ r.xs, ∀ y ∈ x, y.flat = true
/-- lent rows: the answer holds none of them -/
def LentOk (bs : List Nat) (r : PV) (N : List RowB) : Prop :=
  match bs with
  | [] => True
  | _ => r.flat = true ∧ FlatN N
noncomputable def blksOf (N : List RowB) : List Blk := List.rec (motive := fun _ => List Blk) [] (fun r _ ih => .row r.e r.sz r.xs :: ih) N
def callK (C : Cx) (H : List (List Blk)) (top : List Blk) (f : Nat) (args : List PV) (K : PV → List Blk → Prop) : Prop :=
  argsK top args [] fun args' bs => hideK top bs fun top1 =>
    ∃ r N, CallEq C (top1 :: H) f args' r N ∧ LentOk bs r N ∧ lenK top fun b => lenK (blksOf N) fun n => adoptK b n r fun r' => appK top (blksOf N) fun top' => K r' top'
/-- arguments of which rows are given -/
def giveOneK (top : List Blk) (p : PV) (bs : List Nat) (K : PV → Option (Nat × RowB) → Prop) : Prop :=
  match p with
  | .row 0 i n => getK top i fun b => match b with
      | .row e sz xs => (match bs.any (Nat.beq i) with
          | true => False
          | false => lenK bs fun g => K (.row 0 g n) (some (i, ⟨e, sz, xs⟩)))
      | _ => False
  | p => argK top p [] fun p' b1 => match b1 with
      | [] => K p' none
      | _ :: _ => False
def giveArgsK (top : List Blk) (ps : List PV) (bs : List Nat) (K : List PV → List Nat → List RowB → Prop) : Prop :=
  List.rec (motive := fun _ => List Nat → (List PV → List Nat → List RowB → Prop) → Prop) (fun _ K => K [] [] [])
    (fun p _ ih bs K => giveOneK top p bs fun p' o => match o with
      | some (i, r) => snocK bs i fun bs1 => ih bs1 fun ps' bs' G => K (p' :: ps') (i :: bs') (r :: G)
      | none => ih bs fun ps' bs' G => K (p' :: ps') bs' G) ps bs K
theorem giveArgsK_nil (top : List Blk) (bs : List Nat) (K : List PV → List Nat → List RowB → Prop) : giveArgsK top [] bs K = K [] [] [] := rfl
theorem giveArgsK_cons (top : List Blk) (p : PV) (ps : List PV) (bs : List Nat) (K : List PV → List Nat → List RowB → Prop) : giveArgsK top (p :: ps) bs K = giveOneK top p bs fun p' o => match o with
      | some (i, r) => snocK bs i fun bs1 => giveArgsK top ps bs1 fun ps' bs' G => K (p' :: ps') (i :: bs') (r :: G)
      | none => giveArgsK top ps bs fun ps' bs' G => K (p' :: ps') bs' G := rfl
def backK (top : List Blk) (is : List Nat) (gs : List (Option RowB)) (K : List Blk → Prop) : Prop :=
  List.rec (motive := fun _ => List (Option RowB) → (List Blk → Prop) → Prop) (fun gs K => List.rec (motive := fun _ => Prop) (K top) (fun _ _ _ => False) gs)
    (fun i _ ih gs K => List.rec (motive := fun _ => Prop) False (fun g gs _ => ih gs fun top' => setK top' i (gblk g) K) gs) is gs K
def giveK (C : Cx) (H : List (List Blk)) (top : List Blk) (f : Nat) (args : List PV) (K : PV → List Blk → Prop) : Prop :=
  giveArgsK top args [] fun args' bs G => hideK top bs fun top1 =>
    ∃ r G' N, CallEqG C (top1 :: H) f G args' G' r N ∧ lenK top fun b => lenK (blksOf N) fun n => adoptK b n r fun r' => backK top bs G' fun top2 => appK top2 (blksOf N) fun top' => K r' top'
def cmpK (args : List PV) (K : PV → Prop) : Prop :=
  match args with
  | [.d (.sl xs), .d (.sl ys)] => ∃ as bs : List UInt8, xs = as.map (fun b => [DV.int .u8 b.toNat]) ∧ ys = bs.map (fun b => [DV.int .u8 b.toNat]) ∧ K (.d (.int .i64 (Extern.BytealgCompare.cmp ⟨as.toArray⟩ ⟨bs.toArray⟩)))
  | _ => False
noncomputable def growAt (l : List (Nat × Nat)) (g : Nat) : Option Nat :=
  List.rec (motive := fun _ => Option Nat) none (fun p _ ih => match Nat.beq p.1 g with | true => some p.2 | false => ih) l
def growK (C : Cx) (top : List Blk) (e : Nat) (args : List PV) (K : PV → List Blk → Prop) : Prop :=
  match args with
  | [.nils, .d (.int k n)] => ifK (kEq k .i64) (0 ≤ n ∧ lookK C.L e fun r => ifK (Nat.blt 0 r.size) (lenK r.zero fun z => ifK (Nat.beq z r.size)
      (n * (r.bytes : Int) ≤ 140737488355328 ∧ n ≤ 4611686018427387904 ∧ (n = 0 → K .nils top) ∧ (0 < n → newK top (.row e r.size []) fun i top' => K (.row 0 i 0) top'))))
  | _ => False
def zerosD : List PV → (List DV → Prop) → Prop := dvsK
def opK (C : Cx) (H : List (List Blk)) (op : Op) (tm : List PV) (top : List Blk) (K : PV → List Blk → Prop) : Prop :=
  match op with
  | .move x => evK tm x fun p => K p top
  | .assign x => evK tm x fun p => K p top
  | .pick c a b => evK tm c fun c => (match c with
      | .kb true => evK tm a fun p => K p top
      | .kb false => evK tm b fun p => K p top
      | c => evK tm a fun p => evK tm b fun q => pickK c p q fun r => K r top)
  | .alloc e => lookK C.L e fun r => newK top (.box r.zero) fun i top' => K (.ptr 0 i 0) top'
  | .box _ x => evK tm x fun p => cellsK p fun cs => newK top (.box cs) fun i top' => K (.ptr 0 i 0) top'
  | .build t parts => lookK C.L t fun r => ifK r.ty.isAgg (buildK C tm (placeK C r.ty) parts.toList r.zero fun cs => K (.agg cs) top)
  | .buildSlice t n parts => lookK C.L t fun r => (match r.ty with
      | .slice e => lookK C.L e fun r' => ifK (Nat.blt 0 r'.size) (ifK (Nat.ble (n * r'.size) 16777216) (elemsK tm r'.size 0 parts.toList fun es =>
          lenK es fun k => ifK (Nat.beq k n) (match n with
            | 0 => newK top (.row e r'.size es) fun i top' => K (.row 0 i n) top'
            | _ + 1 => K (.d (.sl es)) top)))
      | _ => False)
  | .load t a => evK tm a fun p => loadK C H top t p fun q => K q top
  | .fieldAddr t x fld => evK tm x fun p => fieldK C t p fld fun q => K q top
  | .indexAddr t x ix => evK tm x fun p => evK tm ix fun i => (match i with | .d (.int _ n) => idxK C H top t p n fun q => K q top | _ => False)
  | .index t x ix => evK tm x fun p => evK tm ix fun i => (match p, i with
      | .agg cs, .d (.int _ n) => lookK C.L t fun r => (match r.ty with
          | .arr len e => 0 ≤ n ∧ n < (len : Int) ∧ lookK C.L e fun r' => subK cs (n.toNat * r'.size) r'.size fun ys => wholeK r' ys fun q => K q top
          | _ => False)
      | _, _ => False)
  | .makeSlice t l c => evK tm l fun pl => evK tm c fun pc => (match pl, pc with
      | .d (.int _ n), .d (.int _ n') => lookK C.L t fun r => (match r.ty with
          | .slice e => lookK C.L e fun r' => ifK (Nat.blt 0 r'.size) (dvsK r'.zero fun zs => lenK zs fun k => ifK (Nat.beq k r'.size)
              (n = n' ∧ 0 ≤ n ∧ (r'.bytes : Int) * n ≤ 281474976710656 ∧ n ≤ 9223372036854775807 ∧ newK top (.row e r'.size (List.replicate n.toNat zs)) fun i top' => K (.row 0 i n.toNat) top'))
          | _ => False)
      | _, _ => False)
  | .binOp op t x y _ => evK tm x fun p => evK tm y fun q => binK C op t p q fun r => K r top
  | .unOp .not _ x => evK tm x fun p => (match p with | .ub => K .ub top | .kb b => K (.kb (!b)) top | .d (.bool b) => K (.d (.bool (!b))) top | _ => False)
  | .convert s d x => evK tm x fun p => convK C s d p fun q => K q top
  | .slice t x lo hi none => evK tm x fun p => optEvK tm lo fun l => optEvK tm hi fun h => lookK C.L t fun r => (match r.ty with | .slice e => lookK C.L e fun r' => sliceK r'.size p l h fun q => K q top | _ => False)
  | .makeFunc fn fs cs => evsK tm fs.toList fun fs' => evsK tm cs.toList fun cs' => K (.func fn fs' cs') top
  | .extract x i => evK tm x fun p => (match p with | .tuple cs => getK cs i fun q => K q top | _ => False)
  | .call c => (match c.callee with
      | .builtin .len => (match c.args.toList, c.argTypes.toList with
          | [x], [t] => evK tm x fun p => lookK C.L t fun r => (match p with
              | .d (.sl xs) => ifK r.ty.isSlice (K (.d (.int .i64 xs.length)) top)
              | .nils => ifK r.ty.isSlice (K (.d (.int .i64 0)) top)
              | .row _ _ n => ifK r.ty.isSlice (K (.d (.int .i64 n)) top)
              | .d (.str s) => (match r.ty with | .str => K (.d (.int .i64 s.size)) top | _ => False)
              | _ => False)
          | _, _ => False)
      | .value f => evK tm f fun p => (match p with
          | .func (.func g) fs cs => evsK tm c.args.toList fun as => appK fs as fun l1 => appK l1 cs fun l2 => (match C.cmp.any (Nat.beq g) with
              | true => cmpK l2 fun p => K p top
              | false => ifK (C.plain g) (match growAt C.grow g with
                | some e => growK C top e l2 K
                | none => callK C H top g l2 K))
          | _ => False)
      | _ => False)
  | _ => False

/-! ### what turns memory -/
def storeK (C : Cx) (top : List Blk) (t : Nat) (p v : PV) (K : List Blk → Prop) : Prop :=
  lookK C.L t fun r => cellsK v fun cs => allCellK cs (lenK cs fun n => ifK (Nat.beq n r.size) (match p with
    | .ptr 0 i o => getK top i fun b => (match b with | .box bs => putK bs o cs fun bs' => setK top i (.box bs') K | _ => False)
    | .rptr 0 i sz e j => getK top i fun b => (match b with
        | .row t' sz' xs => ifK (Nat.beq sz' sz) (dvsK cs fun ds => ∃ x, xs[e]? = some x ∧ putK x j ds fun x' => setK top i (.row t' sz' (xs.set e x')) K)
        | _ => False)
    | _ => False))
/-- what is appended: elements -/
def newsK (top : List Blk) (sz : Nat) (x : PV) (K : List (List DV) → Prop) : Prop :=
  match x with
  | .nils => K []
  | .d (.sl ys) => (∀ y ∈ ys, y.length = sz) ∧ K ys
  | .row 0 j n => getK top j fun b => (match b with | .row _ sz' ys => ifK (Nat.beq sz' sz) (K (ys.take n)) | _ => False)
  | _ => False
def appendK (C : Cx) (top : List Blk) (t : Nat) (s x : PV) (K : PV → List Blk → Prop) : Prop :=
  lookK C.L t fun r => (match r.ty with
    | .slice e => lookK C.L e fun r' => ifK (Nat.blt 0 r'.size) (ifK (Nat.blt 0 r'.bytes) (lenK r'.zero fun z => ifK (Nat.beq z r'.size) (newsK top r'.size x fun ys => (match s with
      | .nils => ys.length * r'.bytes ≤ 140737488355328 ∧ newK top (.row e r'.size ys) fun i top' => K (.row 0 i ys.length) top'
      | .row 0 i n => getK top i fun b => (match b with
          | .row e' sz xs => ifK (Nat.beq e' e) <| ifK (Nat.beq sz r'.size) <| n = xs.length ∧ (n + ys.length) * r'.bytes ≤ 140737488355328 ∧ setK top i .dead fun top1 => newK top1 (.row e sz (xs ++ ys)) fun i' top' => K (.row 0 i' (n + ys.length)) top'
          | _ => False)
      | _ => False))))
    | _ => False)
def actK (C : Cx) (H : List (List Blk)) (op : Op) (tm : List PV) (top : List Blk) (K : PV → List Blk → Prop) : Prop :=
  match op with
  | .store t a v => evK tm a fun p => evK tm v fun q => storeK C top t p q fun top' => K .any top'
  | .call c => (match c.callee with
      | .builtin .append => (match c.args.toList, c.argTypes.toList with
          | [s, x], [t, t'] => ifK (Nat.beq t t') (evK tm s fun p => evK tm x fun q => appendK C top t p q K)
          | _, _ => False)
      | .value (.func f) => (match C.give.any (Nat.beq f) with
          | true => evsK tm c.args.toList fun as => ifK (C.plain f) (giveK C H top f as K)
          | false => opK C H (.call c) tm top K)
      | _ => opK C H (.call c) tm top K)
  | op => opK C H op tm top K

/-! ### regions -/
/-- Is the operation wanted? What was not known is known then. -/
def wantK (ops : List Oper) (o : Oper) (tm : List PV) (K : Bool → List PV → Prop) : Prop :=
  match o.guard with
  | none => K true tm
  | some (j, b) => getK ops j fun o' => (match o'.dst with
    | none => False
    | some d => getK tm d fun p => (match p with
      | .kb x => K (x == b) tm
      | .tuple [] => K false tm
      | .d (.bool x) => (x = b → setK tm d (.kb b) (K true)) ∧ (x = !b → setK tm d (.kb !b) (K false))
      | _ => False))
def putDst (o : Oper) (tm : List PV) (p : PV) (K : List PV → Prop) : Prop :=
  match o.dst with
  | none => K tm
  | some d => setK tm d p K
def opsK (C : Cx) (H : List (List Blk)) (ops l : List Oper) (tm : List PV) (top : List Blk) (K : List PV → List Blk → Prop) : Prop :=
  List.rec (motive := fun _ => List PV → List Blk → Prop) (fun tm top => K tm top) (fun o _ ih tm top => wantK ops o tm fun w tm1 => (match w with
    | true => actK C H o.op tm1 top fun p top' => putDst o tm1 p fun tm' => ih tm' top'
    | false => putDst o tm1 (.tuple []) fun tm' => ih tm' top)) l tm top
theorem opsK_nil (C : Cx) (H : List (List Blk)) (ops : List Oper) (tm : List PV) (top : List Blk) (K : List PV → List Blk → Prop) : opsK C H ops [] tm top K = K tm top := rfl
theorem opsK_cons (C : Cx) (H : List (List Blk)) (ops : List Oper) (o : Oper) (rest : List Oper) (tm : List PV) (top : List Blk) (K : List PV → List Blk → Prop) : opsK C H ops (o :: rest) tm top K = wantK ops o tm fun w tm1 => (match w with
    | true => actK C H o.op tm1 top fun p top' => putDst o tm1 p fun tm' => opsK C H ops rest tm' top' K
    | false => putDst o tm1 (.tuple []) fun tm' => opsK C H ops rest tm' top K) := rfl
end Go.Proofs.Ve
