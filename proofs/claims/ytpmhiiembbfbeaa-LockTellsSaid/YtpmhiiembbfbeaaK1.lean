/- What modes and spans come to: contracts. -/
import Derived.Test.YtpmhiiembbfbeaaY
set_option maxRecDepth 100000
set_option maxHeartbeats 4000000
set_option linter.all false
namespace Go.Proofs.Ve
open Go
theorem flat_nil : FlatN [] := fun r hr => by cases hr
structure Span where
  t : Int
  lo : List UInt8
  hi : List UInt8
  op : Bool
structure Lock where
  owner : Int
  whole : Bool
  span : Span
  mode : Int
def encB (b : List UInt8) : DV := .sl (b.map fun x => [.int .u8 x.toNat])
def cSpan (s : Span) : List DV := [.int .i64 s.t, encB s.lo, encB s.hi, .bool s.op]
def cLock (x : Lock) : List DV := [.int .i64 x.owner, .bool x.whole, .int .i64 x.span.t, encB x.span.lo, encB x.span.hi, .bool x.span.op, .int .i64 x.mode]
def pSpan (s : Span) : PV := .agg [.d (.int .i64 s.t), .d (encB s.lo), .d (encB s.hi), .d (.bool s.op)]
def pLock (x : Lock) : PV := .agg [.d (.int .i64 x.owner), .d (.bool x.whole), .d (.int .i64 x.span.t), .d (encB x.span.lo), .d (encB x.span.hi), .d (.bool x.span.op), .d (.int .i64 x.mode)]
def toBA (b : List UInt8) : ByteArray := ⟨b.toArray⟩
def cmpB (a b : List UInt8) : Int := Extern.BytealgCompare.cmp ⟨a.toArray⟩ ⟨b.toArray⟩
def ltB (a b : List UInt8) : Bool := Op.bytesLess (toBA a).toList (toBA b).toList
def eqB (a b : List UInt8) : Bool := (toBA a).toList == (toBA b).toList

/-! ### modes -/
def mIs (m : Int) : Bool := decide (m ≥ 1) && decide (m ≤ 5)
theorem c94 (m : Int) (H : List (List Blk)) : CallEq X H 94 [.d (.int .i64 m)] (.d (.bool (mIs m))) [] := by
  unfold mIs
  refine callEq_of_body X_ok rfl Try.func94 rfl ?_
  conv => whnf
  repeat' (first
    | (refine And.intro (fun h_ => ?_) (fun h_ => ?_) <;> (conv => whnf))
    | (intro z_ hz_; conv => whnf)
    | (refine ⟨[], rfl, ?_, True.intro⟩; (conv => whnf); (first | done | (simp_all only [refP, Bool.not_true, Bool.not_false, Bool.true_and, Bool.false_and, Bool.and_true, Bool.and_false, Bool.true_or, Bool.false_or, Bool.or_true, Bool.or_false, Bool.not_not, Bool.not_eq_true', Bool.not_eq_false', if_true, if_false, Bool.false_eq_true, Bool.true_eq_false, List.length_map]; done))))
def mCovers (a b : Int) : Bool := if !mIs a || !mIs b then false else a == b || (a == 5 || (b == 1 || (a == 4 && (b == 2 || b == 3))))
theorem c87 (a b : Int) (H : List (List Blk)) : CallEq X H 87 [.d (.int .i64 a), .d (.int .i64 b)] (.d (.bool (mCovers a b))) [] := by
  unfold mCovers
  refine callEq_of_body X_ok rfl Try.func87 rfl ?_
  conv => whnf
  repeat' (first
    | (refine And.intro (fun h_ => ?_) (fun h_ => ?_) <;> (conv => whnf))
    | (refine ⟨_, _, c94 _ _, (by first | exact True.intro | exact And.intro rfl flat_nil), ?_⟩; conv => whnf)
    | (intro z_ hz_; conv => whnf)
    | (refine ⟨[], rfl, ?_, True.intro⟩; (conv => whnf); (first | done | (simp_all only [refP, Bool.not_true, Bool.not_false, Bool.true_and, Bool.false_and, Bool.and_true, Bool.and_false, Bool.true_or, Bool.false_or, Bool.or_true, Bool.or_false, Bool.not_not, Bool.not_eq_true', Bool.not_eq_false', if_true, if_false, Bool.false_eq_true, Bool.true_eq_false, List.length_map]; done))))
def rMay (m : Int) : Int := if m == 1 then 1 else if m == 2 then 5 else if m == 3 then 3 else if m == 4 then 7 else if m == 5 then 15 else 0
theorem c91 (m : Int) (H : List (List Blk)) : CallEq X H 91 [.d (.int .i64 m)] (.d (.int .i64 (rMay m))) [] := by
  unfold rMay
  refine callEq_of_body X_ok rfl Try.func91 rfl ?_
  conv => whnf
  repeat' (first
    | (refine And.intro (fun h_ => ?_) (fun h_ => ?_) <;> (conv => whnf))
    | (intro z_ hz_; conv => whnf)
    | (refine ⟨[], rfl, ?_, True.intro⟩; (conv => whnf); (first | done | (simp_all only [refP, Bool.not_true, Bool.not_false, Bool.true_and, Bool.false_and, Bool.and_true, Bool.and_false, Bool.true_or, Bool.false_or, Bool.or_true, Bool.or_false, Bool.not_not, Bool.not_eq_true', Bool.not_eq_false', if_true, if_false, Bool.false_eq_true, Bool.true_eq_false, List.length_map]; done))))
def and64 (a b : Int) : Int := IntKind.i64.wrap (BitVec.ofInt IntKind.i64.bits a &&& BitVec.ofInt IntKind.i64.bits b).toNat
def rFits (a b : Int) : Bool :=
  if rMay a == 0 || (rMay b == 0 || (decide (and64 (rMay a) 8 > 0) || decide (and64 (rMay b) 8 > 0))) then false
  else !(decide (and64 (rMay a) 4 > 0) && decide (and64 (rMay b) 2 > 0)) && !(decide (and64 (rMay b) 4 > 0) && decide (and64 (rMay a) 2 > 0))
def rCovers (a b : Int) : Bool := decide (rMay a > 0) && (decide (rMay b > 0) && and64 (rMay a) (rMay b) == rMay b)
/-! ### spans -/
def sCheck (s : Span) : Bool := decide (s.t ≥ 0) && decide (s.t < 4) && decide ((s.lo.length : Int) ≤ 17) && decide ((s.hi.length : Int) ≤ 17) && (!s.op || (s.hi.length : Int) == 0)
theorem c86 (s : Span) (H : List (List Blk)) : CallEq X H 86 [pSpan s] (.d (.bool (sCheck s))) [] := by
  unfold sCheck
  refine callEq_of_body X_ok rfl Try.func86 rfl ?_
  conv => whnf
  repeat' (first
    | (refine And.intro (fun h_ => ?_) (fun h_ => ?_) <;> (conv => whnf))
    | (intro z_ hz_; conv => whnf)
    | (refine ⟨[], rfl, ?_, True.intro⟩; (conv => whnf); (first | done | (simp_all only [refP, Bool.not_true, Bool.not_false, Bool.true_and, Bool.false_and, Bool.and_true, Bool.and_false, Bool.true_or, Bool.false_or, Bool.or_true, Bool.or_false, Bool.not_not, Bool.not_eq_true', Bool.not_eq_false', if_true, if_false, Bool.false_eq_true, Bool.true_eq_false, List.length_map]; done))))
def rSCheck (s : Span) : Bool := decide (s.t ≥ 0) && decide (s.t ≤ 3) && decide ((s.lo.length : Int) ≤ 17) && decide ((s.hi.length : Int) ≤ 17) && (!s.op || (s.hi.length : Int) == 0)
theorem c92 (s : Span) (H : List (List Blk)) : CallEq X H 92 [pSpan s] (.d (.bool (rSCheck s))) [] := by
  unfold rSCheck
  refine callEq_of_body X_ok rfl Try.func92 rfl ?_
  conv => whnf
  repeat' (first
    | (refine And.intro (fun h_ => ?_) (fun h_ => ?_) <;> (conv => whnf))
    | (intro z_ hz_; conv => whnf)
    | (refine ⟨[], rfl, ?_, True.intro⟩; (conv => whnf); (first | done | (simp_all only [refP, Bool.not_true, Bool.not_false, Bool.true_and, Bool.false_and, Bool.and_true, Bool.and_false, Bool.true_or, Bool.false_or, Bool.or_true, Bool.or_false, Bool.not_not, Bool.not_eq_true', Bool.not_eq_false', if_true, if_false, Bool.false_eq_true, Bool.true_eq_false, List.length_map]; done))))
theorem c96 (a b : List UInt8) (H : List (List Blk)) : CallEq X H 96 [.d (encB a), .d (encB b)] (.d (.int .i64 (cmpB a b))) [] := by
  unfold cmpB
  refine callEq_of_body X_ok rfl Try.func96 rfl ?_
  conv => whnf
  repeat' (first
    | (refine And.intro (fun h_ => ?_) (fun h_ => ?_) <;> (conv => whnf))
    | (refine ⟨_, _, rfl, rfl, ?_⟩; conv => whnf)
    | (intro z_ hz_; conv => whnf)
    | (refine ⟨[], rfl, ?_, True.intro⟩; (conv => whnf); (first | done | (simp_all only [refP, Bool.not_true, Bool.not_false, Bool.true_and, Bool.false_and, Bool.and_true, Bool.and_false, Bool.true_or, Bool.false_or, Bool.or_true, Bool.or_false, Bool.not_not, Bool.not_eq_true', Bool.not_eq_false', if_true, if_false, Bool.false_eq_true, Bool.true_eq_false, List.length_map]; done))))
def sEmpty (s : Span) : Bool := !s.op && decide (cmpB s.hi s.lo ≤ 0)
theorem c88 (s : Span) (H : List (List Blk)) : CallEq X H 88 [pSpan s] (.d (.bool (sEmpty s))) [] := by
  unfold sEmpty
  refine callEq_of_body X_ok rfl Try.func88 rfl ?_
  conv => whnf
  repeat' (first
    | (refine And.intro (fun h_ => ?_) (fun h_ => ?_) <;> (conv => whnf))
    | (refine ⟨_, _, c96 _ _ _, (by first | exact True.intro | exact And.intro rfl flat_nil), ?_⟩; conv => whnf)
    | (intro z_ hz_; conv => whnf)
    | (refine ⟨[], rfl, ?_, True.intro⟩; (conv => whnf); (first | done | (simp_all only [refP, Bool.not_true, Bool.not_false, Bool.true_and, Bool.false_and, Bool.and_true, Bool.and_false, Bool.true_or, Bool.false_or, Bool.or_true, Bool.or_false, Bool.not_not, Bool.not_eq_true', Bool.not_eq_false', if_true, if_false, Bool.false_eq_true, Bool.true_eq_false, List.length_map]; done))))
def rSEmpty (s : Span) : Bool := !s.op && (ltB s.hi s.lo || eqB s.hi s.lo)
theorem c93 (s : Span) (H : List (List Blk)) : CallEq X H 93 [pSpan s] (.d (.bool (rSEmpty s))) [] := by
  unfold rSEmpty ltB eqB toBA
  refine callEq_of_body X_ok rfl Try.func93 rfl ?_
  conv => whnf
  repeat' (first
    | (refine And.intro (fun h_ => ?_) (fun h_ => ?_) <;> (conv => whnf))
    | (refine ⟨_, rfl, ?_⟩; conv => whnf)
    | (intro z_ hz_; conv => whnf)
    | (refine ⟨[], rfl, ?_, True.intro⟩; (conv => whnf); (first | done | (simp_all only [refP, Bool.not_true, Bool.not_false, Bool.true_and, Bool.false_and, Bool.and_true, Bool.and_false, Bool.true_or, Bool.false_or, Bool.or_true, Bool.or_false, Bool.not_not, Bool.not_eq_true', Bool.not_eq_false', if_true, if_false, Bool.false_eq_true, Bool.true_eq_false, List.length_map]; done))))
def sIn (s : Span) (t : Int) (k : List UInt8) : Bool := s.t == t && decide (cmpB s.lo k ≤ 0) && (s.op || decide (cmpB k s.hi < 0))
theorem c100 (s : Span) (t : Int) (k : List UInt8) (H : List (List Blk)) : CallEq X H 100 [pSpan s, .d (.int .i64 t), .d (encB k)] (.d (.bool (sIn s t k))) [] := by
  unfold sIn
  refine callEq_of_body X_ok rfl Try.func100 rfl ?_
  conv => whnf
  repeat' (first
    | (refine And.intro (fun h_ => ?_) (fun h_ => ?_) <;> (conv => whnf))
    | (refine ⟨_, _, c96 _ _ _, (by first | exact True.intro | exact And.intro rfl flat_nil), ?_⟩; conv => whnf)
    | (intro z_ hz_; conv => whnf)
    | (refine ⟨[], rfl, ?_, True.intro⟩; (conv => whnf); (first | done | (simp_all only [refP, Bool.not_true, Bool.not_false, Bool.true_and, Bool.false_and, Bool.and_true, Bool.and_false, Bool.true_or, Bool.false_or, Bool.or_true, Bool.or_false, Bool.not_not, Bool.not_eq_true', Bool.not_eq_false', if_true, if_false, Bool.false_eq_true, Bool.true_eq_false, List.length_map]; done))))
def rSIn (s : Span) (t : Int) (k : List UInt8) : Bool := s.t == t && !ltB k s.lo && (s.op || ltB k s.hi)
theorem c101 (s : Span) (t : Int) (k : List UInt8) (H : List (List Blk)) : CallEq X H 101 [pSpan s, .d (.int .i64 t), .d (encB k)] (.d (.bool (rSIn s t k))) [] := by
  unfold rSIn ltB toBA
  refine callEq_of_body X_ok rfl Try.func101 rfl ?_
  conv => whnf
  repeat' (first
    | (refine And.intro (fun h_ => ?_) (fun h_ => ?_) <;> (conv => whnf))
    | (refine ⟨_, rfl, ?_⟩; conv => whnf)
    | (intro z_ hz_; conv => whnf)
    | (refine ⟨[], rfl, ?_, True.intro⟩; (conv => whnf); (first | done | (simp_all only [refP, Bool.not_true, Bool.not_false, Bool.true_and, Bool.false_and, Bool.and_true, Bool.and_false, Bool.true_or, Bool.false_or, Bool.or_true, Bool.or_false, Bool.not_not, Bool.not_eq_true', Bool.not_eq_false', if_true, if_false, Bool.false_eq_true, Bool.true_eq_false, List.length_map]; done))))
end Go.Proofs.Ve
