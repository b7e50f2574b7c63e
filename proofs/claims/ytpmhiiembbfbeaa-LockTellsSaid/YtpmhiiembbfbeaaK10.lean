/- What covers, serves, is the same. -/
import Derived.Test.YtpmhiiembbfbeaaK9
set_option maxRecDepth 100000
set_option linter.all false
namespace Go.Proofs.Ve
open Go
def sCovers (a b : Span) : Bool :=
  if sEmpty b then true
  else if a.t != b.t || decide (cmpB a.lo b.lo > 0) then false
  else a.op || (!b.op && decide (cmpB b.hi a.hi ≤ 0))
theorem c106 (a b : Span) (H : List (List Blk)) : CallEq X H 106 [pSpan a, pSpan b] (.d (.bool (sCovers a b))) [] := by
  unfold sCovers
  refine callEq_of_body X_ok rfl Try.func106 rfl ?_
  conv => whnf
  repeat' (first
    | (refine And.intro (fun h_ => ?_) (fun h_ => ?_) <;> (conv => whnf))
    | (refine ⟨_, _, c88 b _, (by first | exact True.intro | exact And.intro rfl flat_nil), ?_⟩; conv => whnf)
    | (refine ⟨_, _, c96 _ _ _, (by first | exact True.intro | exact And.intro rfl flat_nil), ?_⟩; conv => whnf)
    | (intro z_ hz_; conv => whnf)
    | (refine ⟨[], rfl, ?_, True.intro⟩; (conv => whnf); (first | done | (simp_all only [refP, Bool.not_true, Bool.not_false, Bool.true_and, Bool.false_and, Bool.and_true, Bool.and_false, Bool.true_or, Bool.false_or, Bool.or_true, Bool.or_false, Bool.not_not, Bool.not_eq_true', Bool.not_eq_false', if_true, if_false, Bool.false_eq_true, Bool.true_eq_false, List.length_map]; done))))
def lServes (h x : Lock) : Bool :=
  if (h.owner != x.owner || h.span.t != x.span.t) || (x.whole && !h.whole) then false
  else if h.whole then mCovers h.mode x.mode
  else sCovers h.span x.span && (h.mode == 5 || h.mode == x.mode)
theorem c66 (h x : Lock) (H : List (List Blk)) : CallEq X H 66 [pLock h, pLock x] (.d (.bool (lServes h x))) [] := by
  unfold lServes
  refine callEq_of_body X_ok rfl Try.func66 rfl ?_
  conv => whnf
  repeat' (first
    | (refine And.intro (fun h_ => ?_) (fun h_ => ?_) <;> (conv => whnf))
    | (refine ⟨_, _, c87 _ _ _, (by first | exact True.intro | exact And.intro rfl flat_nil), ?_⟩; conv => whnf)
    | (refine ⟨_, _, c106 h.span x.span _, (by first | exact True.intro | exact And.intro rfl flat_nil), ?_⟩; conv => whnf)
    | (intro z_ hz_; conv => whnf)
    | (refine ⟨[], rfl, ?_, True.intro⟩; (conv => whnf); (first | done | (simp_all only [refP, Bool.not_true, Bool.not_false, Bool.true_and, Bool.false_and, Bool.and_true, Bool.and_false, Bool.true_or, Bool.false_or, Bool.or_true, Bool.or_false, Bool.not_not, Bool.not_eq_true', Bool.not_eq_false', if_true, if_false, Bool.false_eq_true, Bool.true_eq_false, List.length_map]; done))))
def sOne (a b : Span) : Bool := a.t == b.t && eqB a.lo b.lo && eqB a.hi b.hi && a.op == b.op
theorem c108 (a b : Span) (H : List (List Blk)) : CallEq X H 108 [pSpan a, pSpan b] (.d (.bool (sOne a b))) [] := by
  unfold sOne eqB toBA
  refine callEq_of_body X_ok rfl Try.func108 rfl ?_
  conv => whnf
  repeat' (first
    | (refine And.intro (fun h_ => ?_) (fun h_ => ?_) <;> (conv => whnf))
    | (refine ⟨_, rfl, ?_⟩; conv => whnf)
    | (intro z_ hz_; conv => whnf)
    | (refine ⟨[], rfl, ?_, True.intro⟩; (conv => whnf); (first | done | (simp_all only [refP, Bool.not_true, Bool.not_false, Bool.true_and, Bool.false_and, Bool.and_true, Bool.and_false, Bool.true_or, Bool.false_or, Bool.or_true, Bool.or_false, Bool.not_not, Bool.not_eq_true', Bool.not_eq_false', if_true, if_false, Bool.false_eq_true, Bool.true_eq_false, List.length_map]; done))))
def mAbove (m : Int) : Int := if m == 1 then 1 else if m == 3 then 1 else if m == 2 then 2 else if m == 4 then 2 else if m == 5 then 2 else 0
theorem c113 (m : Int) (H : List (List Blk)) : CallEq X H 113 [.d (.int .i64 m)] (.d (.int .i64 (mAbove m))) [] := by
  unfold mAbove
  refine callEq_of_body X_ok rfl Try.func113 rfl ?_
  conv => whnf
  repeat' (first
    | (refine And.intro (fun h_ => ?_) (fun h_ => ?_) <;> (conv => whnf))
    | (intro z_ hz_; conv => whnf)
    | (refine ⟨[], rfl, ?_, True.intro⟩; (conv => whnf); (first | done | (simp_all only [refP, Bool.not_true, Bool.not_false, Bool.true_and, Bool.false_and, Bool.and_true, Bool.and_false, Bool.true_or, Bool.false_or, Bool.or_true, Bool.or_false, Bool.not_not, Bool.not_eq_true', Bool.not_eq_false', if_true, if_false, Bool.false_eq_true, Bool.true_eq_false, List.length_map]; done))))
def wIs (o : Int) : Bool := decide (o ≥ 0) && decide (o < 4)
theorem c109 (o : Int) (H : List (List Blk)) : CallEq X H 109 [.d (.int .i64 o)] (.d (.bool (wIs o))) [] := by
  unfold wIs
  refine callEq_of_body X_ok rfl Try.func109 rfl ?_
  conv => whnf
  repeat' (first
    | (refine And.intro (fun h_ => ?_) (fun h_ => ?_) <;> (conv => whnf))
    | (intro z_ hz_; conv => whnf)
    | (refine ⟨[], rfl, ?_, True.intro⟩; (conv => whnf); (first | done | (simp_all only [refP, Bool.not_true, Bool.not_false, Bool.true_and, Bool.false_and, Bool.and_true, Bool.and_false, Bool.true_or, Bool.false_or, Bool.or_true, Bool.or_false, Bool.not_not, Bool.not_eq_true', Bool.not_eq_false', if_true, if_false, Bool.false_eq_true, Bool.true_eq_false, List.length_map]; done))))
end Go.Proofs.Ve
