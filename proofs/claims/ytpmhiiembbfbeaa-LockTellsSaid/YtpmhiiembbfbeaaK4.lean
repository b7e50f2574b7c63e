/- Modes that fit; locks that clash. -/
import Derived.Test.YtpmhiiembbfbeaaK3
set_option maxRecDepth 100000
set_option linter.all false
namespace Go.Proofs.Ve
open Go
theorem mIs_cases {m : Int} (h : mIs m = true) : m = 1 ∨ m = 2 ∨ m = 3 ∨ m = 4 ∨ m = 5 := by
  unfold mIs at h
  simp at h
  omega
def mTable : List PV := [.kb false, .kb false, .kb false, .kb false, .kb false, .kb false, .kb false, .kb true, .kb true, .kb true, .kb true, .kb false, .kb false, .kb true, .kb true, .kb false, .kb false, .kb false, .kb false, .kb true, .kb false, .kb true, .kb false, .kb false, .kb false, .kb true, .kb false, .kb false, .kb false, .kb false, .kb false, .kb false, .kb false, .kb false, .kb false, .kb false]
theorem c95 (H : List (List Blk)) : CallEq X H 95 [] (.agg mTable) [] := by
  refine callEq_of_body X_ok rfl Try.func95 rfl ?_
  conv => whnf
  exact ⟨[], rfl, (by (repeat' (first | exact True.intro | exact rfl | refine And.intro ?_ ?_))), True.intro⟩
def mTab (a b : Int) : Bool := (a == 1 && (b == 1 || b == 2 || b == 3 || b == 4)) || (a == 2 && (b == 1 || b == 2)) || (a == 3 && (b == 1 || b == 3)) || (a == 4 && b == 1)
def mFits (a b : Int) : Bool := mIs a && (mIs b && mTab a b)
theorem c94t (m : Int) (h : mIs m = true) (H : List (List Blk)) : CallEq X H 94 [.d (.int .i64 m)] (.d (.bool true)) [] := h ▸ c94 m H
theorem c56 (a b : Int) (H : List (List Blk)) : CallEq X H 56 [.d (.int .i64 a), .d (.int .i64 b)] (.d (.bool (mFits a b))) [] := by
  by_cases h : mIs a = true ∧ mIs b = true
  · obtain ⟨ha, hb⟩ := h
    rcases mIs_cases ha with rfl | rfl | rfl | rfl | rfl <;> rcases mIs_cases hb with rfl | rfl | rfl | rfl | rfl <;>
    ( refine callEq_of_body X_ok rfl Try.func56 rfl ?_
      conv => whnf
      refine ⟨_, _, c94t _ ha _, True.intro, ?_⟩
      conv => whnf
      refine And.intro (fun _ => ?_) (fun h_ => by cases h_)
      conv => whnf
      refine ⟨_, _, c94t _ hb _, True.intro, ?_⟩
      conv => whnf
      refine And.intro (fun _ => ?_) (fun h_ => by cases h_)
      conv => whnf
      refine ⟨_, _, c95 _, True.intro, ?_⟩
      conv => whnf
      refine ⟨by decide, by decide, ?_⟩
      conv => whnf
      refine ⟨by decide, by decide, ?_⟩
      conv => whnf
      exact ⟨[], rfl, congrArg DV.bool (by decide), True.intro⟩ )
  · unfold mFits
    refine callEq_of_body X_ok rfl Try.func56 rfl ?_
    conv => whnf
    refine ⟨_, _, c94 _ _, True.intro, ?_⟩
    conv => whnf
    refine And.intro (fun h1 => ?_) (fun h1 => ?_) <;> (conv => whnf)
    · refine ⟨_, _, c94 _ _, True.intro, ?_⟩
      conv => whnf
      refine And.intro (fun h2 => ?_) (fun h2 => ?_) <;> (conv => whnf)
      · exact absurd ⟨h1, h2⟩ h
      · refine ⟨[], rfl, ?_, True.intro⟩
        conv => whnf
        simp only [h1, h2, Bool.not_true, Bool.true_and, Bool.false_and]
    · refine ⟨[], rfl, ?_, True.intro⟩
      conv => whnf
      simp only [h1, Bool.not_true, Bool.false_and]
def lClash (a b : Lock) : Bool :=
  if a.owner == b.owner || (a.span.t != b.span.t || !(a.whole == b.whole)) then false
  else if a.whole then !mFits a.mode b.mode
  else sMeets a.span b.span && (a.mode == 5 || b.mode == 5)
theorem c21 (a b : Lock) (H : List (List Blk)) : CallEq X H 21 [pLock a, pLock b] (.d (.bool (lClash a b))) [] := by
  unfold lClash
  refine callEq_of_body X_ok rfl Try.func21 rfl ?_
  conv => whnf
  repeat' (first
    | (refine And.intro (fun h_ => ?_) (fun h_ => ?_) <;> (conv => whnf))
    | (refine ⟨_, _, c56 _ _ _, (by first | exact True.intro | exact And.intro rfl flat_nil), ?_⟩; conv => whnf)
    | (refine ⟨_, _, c57 a.span b.span _, (by first | exact True.intro | exact And.intro rfl flat_nil), ?_⟩; conv => whnf)
    | (intro z_ hz_; conv => whnf)
    | (refine ⟨[], rfl, ?_, True.intro⟩; (conv => whnf); (first | done | (simp_all only [refP, Bool.not_true, Bool.not_false, Bool.true_and, Bool.false_and, Bool.and_true, Bool.and_false, Bool.true_or, Bool.false_or, Bool.or_true, Bool.or_false, Bool.not_not, Bool.not_eq_true', Bool.not_eq_false', if_true, if_false, Bool.false_eq_true, Bool.true_eq_false, List.length_map]; done))))
end Go.Proofs.Ve
