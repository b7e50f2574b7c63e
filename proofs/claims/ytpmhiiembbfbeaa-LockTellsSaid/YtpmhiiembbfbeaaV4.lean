/- The value machine: code, loops, a function's body. -/
import Derived.Test.YtpmhiiembbfbeaaV3
set_option linter.all false
namespace Go.Proofs.Ve
open Go

mutual
/-- the names of rows and cells in another frame's numbers -/
def ren (s : List Nat) : PV → PV
  | .row 0 i n => .row 0 (s.getD i 0) n
  | .ptr 0 i o => .ptr 0 (s.getD i 0) o
  | .rptr 0 i sz e j => .rptr 0 (s.getD i 0) sz e j
  | .func fn fs cs => .func fn (rens s fs) (rens s cs)
  | .agg cs => .agg (rens s cs)
  | .tuple cs => .tuple (rens s cs)
  | p => p
def rens (s : List Nat) : List PV → List PV
  | [] => []
  | p :: ps => ren s p :: rens s ps
end
mutual
/-- only these names of the frame's -/
def inN (n : Nat) : PV → Bool
  | .row 0 i _ => Nat.blt i n
  | .ptr 0 i _ => Nat.blt i n
  | .rptr 0 i _ _ _ => Nat.blt i n
  | .func _ fs cs => insN n fs && insN n cs
  | .agg cs => insN n cs
  | .tuple cs => insN n cs
  | _ => true
def insN (n : Nat) : List PV → Bool
  | [] => true
  | p :: ps => inN n p && insN n ps
end
/-- what p says, q says no more: q's own names by s (from nt on: rows that are nil) -/
def refO (s : List Nat) (n nt : Nat) (p q : PV) : Prop :=
  match q with
  | .any => True
  | .ub => (match p with | .ub => True | .kb _ => True | .d (.bool _) => True | _ => False)
  | .kb b => p = .kb b
  | .nils => p = .nils
  | .d y => (match p with | .d x => x = y | .kb b => DV.bool b = y | .nils => DV.sl [] = y | _ => False)
  | .row l i k => (match p with
    | .nils => (match l with | 0 => (Nat.beq k 0 && (Nat.blt i n && Nat.ble nt (s.getD i 0))) = true | _ => False)
    | p => inN n (.row l i k) = true ∧ p = ren s (.row l i k))
  | q => inN n q = true ∧ p = ren s q
def refs (one : PV → PV → Prop) (ps qs : List PV) : Prop :=
  List.rec (motive := fun _ => List PV → Prop) (fun qs => List.rec (motive := fun _ => Prop) True (fun _ _ _ => False) qs)
    (fun p _ ih qs => List.rec (motive := fun _ => Prop) False (fun q qs _ => one p q ∧ ih qs) qs) ps qs
theorem refs_cons (one : PV → PV → Prop) (p : PV) (ps : List PV) (q : PV) (qs : List PV) : refs one (p :: ps) (q :: qs) = (one p q ∧ refs one ps qs) := rfl
/-- .. part by part -/
def refStep (s : List Nat) (n nt : Nat) (ih : PV → PV → Prop) (p q : PV) : Prop :=
  match q with
  | .tuple qs => (match p with | .tuple ps => refs ih ps qs | _ => False)
  | .agg qs => (match p with | .agg ps => refs ih ps qs | _ => False)
  | q => refO s n nt p q
def refF (s : List Nat) (n nt k : Nat) : PV → PV → Prop :=
  Nat.rec (motive := fun _ => PV → PV → Prop) (fun p q => refO s n nt p q) (fun _ ih p q => refStep s n nt ih p q) k
def refP (s : List Nat) (n nt : Nat) (p q : PV) : Prop := refF s n nt 2 p q
def refT (s : List Nat) (n nt : Nat) (ps qs : List PV) : Prop :=
  List.rec (motive := fun _ => List PV → Prop) (fun qs => List.rec (motive := fun _ => Prop) True (fun _ _ _ => False) qs)
    (fun p _ ih qs => List.rec (motive := fun _ => Prop) False (fun q qs _ => refP s n nt p q ∧ ih qs) qs) ps qs
theorem refT_cons (s : List Nat) (n nt : Nat) (p : PV) (ps : List PV) (q : PV) (qs : List PV) : refT s n nt (p :: ps) (q :: qs) = (refP s n nt p q ∧ refT s n nt ps qs) := rfl
def refOne (s : List Nat) (n : Nat) (top : List Blk) (j : Nat) (b : Blk) : Prop :=
  match b with
  | .dead => True
  | .row e sz xs => (match top[j]? with | some (.row e' sz' xs') => e' = e ∧ sz' = sz ∧ xs' = xs | none => xs = [] ∧ Nat.blt 0 sz = true | _ => False)
  | .box cs => (match top[j]? with | some (.box cs') => refT s n top.length cs' cs | _ => False)
def refB (s : List Nat) (n : Nat) (top : List Blk) (js : List Nat) (bs : List Blk) : Prop :=
  List.rec (motive := fun _ => List Blk → Prop) (fun bs => List.rec (motive := fun _ => Prop) True (fun _ _ _ => False) bs)
    (fun j _ ih bs => List.rec (motive := fun _ => Prop) False (fun b bs _ => refOne s n top j b ∧ ih bs) bs) js bs
theorem refB_cons (s : List Nat) (n : Nat) (top : List Blk) (j : Nat) (js : List Nat) (b : Blk) (bs : List Blk) : refB s n top (j :: js) (b :: bs) = (refOne s n top j b ∧ refB s n top js bs) := rfl
def nodupB : List Nat → Bool
  | [] => true
  | x :: xs => !(xs.any (Nat.beq x)) && nodupB xs
/-- The state says at least what the other one says, by the numbers s. -/
def Ref (s : List Nat) (tm : List PV) (top : List Blk) (tm' : List PV) (top' : List Blk) : Prop :=
  nodupB s = true ∧ refT s s.length top.length tm tm' ∧ refB s s.length top s top'

structure LS where
  tm : List PV
  top : List Blk
/-- A loop's invariant: a state for each i. -/
@[irreducible] def LoopV (body : (Exit → List PV → List Blk → Prop) → List PV → List Blk → Prop) (K : Exit → List PV → List Blk → Prop) (tm : List PV) (top : List Blk) : Prop :=
  ∃ (ι : Type) (S : ι → LS) (I : ι → Prop) (μ : ι → Nat), (∃ i s, I i ∧ Ref s tm top (S i).tm (S i).top) ∧
    ∀ i, I i → body (fun e tm' top' => match e with | .normal => ∃ i' s, I i' ∧ μ i' < μ i ∧ Ref s tm' top' (S i').tm (S i').top | e => K e tm' top') (S i).tm (S i).top

/-- Orders of a drawn region, laid down: at each fork the operations that may come next. -/
inductive Tr where
  | fin
  | none
  | alt (i : Nat) (sub rest : Tr)
def opAtK (C : Cx) (H : List (List Blk)) (ops : List Oper) (i : Nat) (K : List PV → List Blk → Prop) (tm : List PV) (top : List Blk) : Prop :=
  getK ops i fun o => wantK ops o tm fun w tm1 => (match w with
    | true => actK C H o.op tm1 top fun p top' => putDst o tm1 p fun tm' => K tm' top'
    | false => putDst o tm1 (.tuple []) fun tm' => K tm' top)
def trK (C : Cx) (H : List (List Blk)) (ops : List Oper) (t : Tr) (K : List PV → List Blk → Prop) : List PV → List Blk → Prop :=
  Tr.rec (motive := fun _ => List PV → List Blk → Prop) (fun tm top => K tm top) (fun _ _ => True)
    (fun i _ rest ihs ihr tm top => match rest with
      | .none => opAtK C H ops i ihs tm top
      | _ => opAtK C H ops i ihs tm top ∧ ihr tm top) t
def moK (mo : List (Nat × Tr)) (id : Nat) (f : Tr → Prop) (d : Prop) : Prop :=
  List.rec (motive := fun _ => Prop) d (fun p _ ih => match Nat.beq p.1 id with | true => f p.2 | false => ih) mo
def wpM (C : Cx) (H : List (List Blk)) (mo : List (Nat × Tr)) (c : Code) (K : Exit → List PV → List Blk → Prop) (tm : List PV) (top : List Blk) : Prop :=
  Code.rec (motive := fun _ => (Exit → List PV → List Blk → Prop) → List PV → List Blk → Prop)
    (fun K tm top => K .normal tm top)
    (fun id ops draw K tm top => match draw with
      | false => opsK C H ops.toList ops.toList tm top fun tm' top' => K .normal tm' top'
      | true => moK mo id (fun t => trK C H ops.toList t (fun tm' top' => K .normal tm' top') tm top) (opsK C H ops.toList ops.toList tm top fun tm' top' => K .normal tm' top'))
    (fun _ _ iha ihb K tm top => iha (fun e tm' top' => match e with | .normal => ihb K tm' top' | e => K e tm' top') tm top)
    (fun c _ _ iha ihb K tm top => evK tm c fun p => (match p with
      | .kb true => iha K tm top
      | .kb false => ihb K tm top
      | .ub => iha K tm top ∧ ihb K tm top
      | .d (.bool x) => (x = true → iha K tm top) ∧ (x = false → ihb K tm top)
      | _ => False))
    (fun id _ ih K tm top => ih (fun e tm' top' => match e with
      | .exit id' => (match Nat.beq id' id with | true => K .normal tm' top' | false => K (.exit id') tm' top')
      | e => K e tm' top') tm top)
    (fun _ ih K tm top => LoopV ih K tm top)
    (fun _ _ _ _ _ _ _ _ _ => False)
    (fun id K tm top => K (.exit id) tm top)
    (fun _ ih K tm top => ih (fun e tm' top' => match e with | .goto _ => False | e => K e tm' top') tm top)
    (fun _ K tm top => K .normal tm top)
    (fun l K tm top => K (.goto l) tm top)
    (fun K tm top => K .ret tm top)
    (fun _ _ _ _ => False) c K tm top
def wpC (C : Cx) (H : List (List Blk)) (c : Code) (K : Exit → List PV → List Blk → Prop) (tm : List PV) (top : List Blk) : Prop := wpM C H [] c K tm top

/-- What a function hands back. -/
def resK (C : Cx) (H : List (List Blk)) (tm : List PV) (top : List Blk) (rvs : List ResultVar) (K : List PV → Prop) : Prop :=
  List.rec (motive := fun _ => (List PV → Prop) → Prop) (fun K => K []) (fun rv _ ih K => match rv with
    | .tmp t => getK tm t fun p => ih fun ps => K (p :: ps)
    | .cell a t => getK tm a fun p => loadK C H top t p fun q => ih fun ps => K (q :: ps)) rvs K
def oneK (ps : List PV) (K : PV → Prop) : Prop :=
  match ps with
  | [p] => K p
  | ps => K (.tuple ps)
def refRow (b : Option Blk) (r : RowB) : Prop :=
  match b with
  | some (.row e' sz' xs') => e' = r.e ∧ sz' = r.sz ∧ xs' = r.xs
  | none => r.xs = [] ∧ Nat.blt 0 r.sz = true
  | _ => False
def refN (top : List Blk) (js : List Nat) (N : List RowB) : Prop :=
  List.rec (motive := fun _ => List RowB → Prop) (fun N => List.rec (motive := fun _ => Prop) True (fun _ _ _ => False) N)
    (fun j _ ih N => List.rec (motive := fun _ => Prop) False (fun r N _ => refRow top[j]? r ∧ ih N) N) js N
def retK (C : Cx) (H : List (List Blk)) (rvs : List ResultVar) (r : PV) (N : List RowB) (e : Exit) (tm : List PV) (top : List Blk) : Prop :=
  let fin : Prop := resK C H tm top rvs fun ps => oneK ps fun p => ∃ s, nodupB s = true ∧ refP s s.length top.length p r ∧ refN top s N
  match e with
  | .normal => fin
  | .ret => fin
  | _ => False
def padK (args : List PV) (n : Nat) (K : List PV → Prop) : Prop :=
  Nat.rec (motive := fun _ => List PV → (List PV → Prop) → Prop) (fun args K => List.rec (motive := fun _ => Prop) (K []) (fun _ _ _ => False) args)
    (fun _ ih args K => List.rec (motive := fun _ => Prop) (ih [] fun ps => K (.any :: ps)) (fun p ps _ => ih ps fun qs => K (p :: qs)) args) n args K
end Go.Proofs.Ve
