/- Locks: may one be, do two clash. -/
import Derived.Test.YtpmhiiembbfbeaaK2
set_option maxRecDepth 100000
set_option linter.all false
namespace Go.Proofs.Ve
open Go
theorem c58 (a b : Int) (H : List (List Blk)) : CallEq X H 58 [.d (.int .i64 a), .d (.int .i64 b)] (.d (.bool (rFits a b))) [] := by
  unfold rFits and64
  refine callEq_of_body X_ok rfl Try.func58 rfl ?_
  conv => whnf
  repeat' (first
    | (refine And.intro (fun h_ => ?_) (fun h_ => ?_) <;> (conv => whnf))
    | (refine ⟨_, _, c91 _ _, (by first | exact True.intro | exact And.intro rfl flat_nil), ?_⟩; conv => whnf)
    | (intro z_ hz_; conv => whnf)
    | (refine ⟨[], rfl, ?_, True.intro⟩; (conv => whnf); (first | done | (simp_all only [refP, Bool.not_true, Bool.not_false, Bool.true_and, Bool.false_and, Bool.and_true, Bool.and_false, Bool.true_or, Bool.false_or, Bool.or_true, Bool.or_false, Bool.not_not, Bool.not_eq_true', Bool.not_eq_false', if_true, if_false, Bool.false_eq_true, Bool.true_eq_false, List.length_map]; done))))
def rLMay (x : Lock) : Bool :=
  if decide (x.owner < 0) || decide (x.owner > 3) then false
  else if x.whole then (((x.span.lo.length : Int) == 0 && ((x.span.hi.length : Int) == 0 && !x.span.op)) && decide (x.span.t ≥ 0)) && decide (x.span.t ≤ 3) && decide (rMay x.mode > 0)
  else (rSCheck x.span && !rSEmpty x.span) && (x.mode == 3 || x.mode == 5)
theorem c54 (x : Lock) (H : List (List Blk)) : CallEq X H 54 [pLock x] (.d (.bool (rLMay x))) [] := by
  unfold rLMay
  refine callEq_of_body X_ok rfl Try.func54 rfl ?_
  conv => whnf
  repeat' (first
    | (refine And.intro (fun h_ => ?_) (fun h_ => ?_) <;> (conv => whnf))
    | (refine ⟨_, _, c91 _ _, (by first | exact True.intro | exact And.intro rfl flat_nil), ?_⟩; conv => whnf)
    | (refine ⟨_, _, c92 x.span _, (by first | exact True.intro | exact And.intro rfl flat_nil), ?_⟩; conv => whnf)
    | (refine ⟨_, _, c93 x.span _, (by first | exact True.intro | exact And.intro rfl flat_nil), ?_⟩; conv => whnf)
    | (intro z_ hz_; conv => whnf)
    | (refine ⟨[], rfl, ?_, True.intro⟩; (conv => whnf); (first | done | (simp_all only [refP, Bool.not_true, Bool.not_false, Bool.true_and, Bool.false_and, Bool.and_true, Bool.and_false, Bool.true_or, Bool.false_or, Bool.or_true, Bool.or_false, Bool.not_not, Bool.not_eq_true', Bool.not_eq_false', if_true, if_false, Bool.false_eq_true, Bool.true_eq_false, List.length_map]; done))))
def lMay (x : Lock) : Bool :=
  if decide (x.owner < 0) || (decide (x.owner ≥ 4) || !sCheck x.span) then false
  else if x.whole then ((x.span.lo.length : Int) == 0 && ((x.span.hi.length : Int) == 0 && !x.span.op)) && mCovers x.mode x.mode
  else !sEmpty x.span && (x.mode == 3 || x.mode == 5)
theorem c50 (x : Lock) (H : List (List Blk)) : CallEq X H 50 [pLock x] (.d (.bool (lMay x))) [] := by
  unfold lMay
  refine callEq_of_body X_ok rfl Try.func50 rfl ?_
  conv => whnf
  repeat' (first
    | (refine And.intro (fun h_ => ?_) (fun h_ => ?_) <;> (conv => whnf))
    | (refine ⟨_, _, c86 x.span _, (by first | exact True.intro | exact And.intro rfl flat_nil), ?_⟩; conv => whnf)
    | (refine ⟨_, _, c87 _ _ _, (by first | exact True.intro | exact And.intro rfl flat_nil), ?_⟩; conv => whnf)
    | (refine ⟨_, _, c88 x.span _, (by first | exact True.intro | exact And.intro rfl flat_nil), ?_⟩; conv => whnf)
    | (intro z_ hz_; conv => whnf)
    | (refine ⟨[], rfl, ?_, True.intro⟩; (conv => whnf); (first | done | (simp_all only [refP, Bool.not_true, Bool.not_false, Bool.true_and, Bool.false_and, Bool.and_true, Bool.and_false, Bool.true_or, Bool.false_or, Bool.or_true, Bool.or_false, Bool.not_not, Bool.not_eq_true', Bool.not_eq_false', if_true, if_false, Bool.false_eq_true, Bool.true_eq_false, List.length_map]; done))))
def rClash (a b : Lock) : Bool :=
  if a.owner == b.owner || (a.span.t != b.span.t || !(a.whole == b.whole)) then false
  else if a.whole then !rFits a.mode b.mode
  else rMeets a.span b.span && (a.mode == 5 || b.mode == 5)
theorem c22 (a b : Lock) (H : List (List Blk)) : CallEq X H 22 [pLock a, pLock b] (.d (.bool (rClash a b))) [] := by
  unfold rClash
  refine callEq_of_body X_ok rfl Try.func22 rfl ?_
  conv => whnf
  repeat' (first
    | (refine And.intro (fun h_ => ?_) (fun h_ => ?_) <;> (conv => whnf))
    | (refine ⟨_, _, c58 _ _ _, (by first | exact True.intro | exact And.intro rfl flat_nil), ?_⟩; conv => whnf)
    | (refine ⟨_, _, c59 a.span b.span _, (by first | exact True.intro | exact And.intro rfl flat_nil), ?_⟩; conv => whnf)
    | (intro z_ hz_; conv => whnf)
    | (refine ⟨[], rfl, ?_, True.intro⟩; (conv => whnf); (first | done | (simp_all only [refP, Bool.not_true, Bool.not_false, Bool.true_and, Bool.false_and, Bool.and_true, Bool.and_false, Bool.true_or, Bool.false_or, Bool.or_true, Bool.or_false, Bool.not_not, Bool.not_eq_true', Bool.not_eq_false', if_true, if_false, Bool.false_eq_true, Bool.true_eq_false, List.length_map]; done))))
end Go.Proofs.Ve
