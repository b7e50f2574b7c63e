/- Locks that are weaker, or not single: contracts. -/
import Derived.Test.YtpmhiiembbfbeaaK5
set_option maxRecDepth 100000
set_option linter.all false
namespace Go.Proofs.Ve
open Go
def bLock (x : Lock) : Blk := .box [.d (.int .i64 x.owner), .d (.bool x.whole), .d (.int .i64 x.span.t), .d (encB x.span.lo), .d (encB x.span.hi), .d (.bool x.span.op), .d (.int .i64 x.mode)]
def lWeak (x y : Lock) : Bool := x.whole && y.whole && x.owner == y.owner && x.span.t == y.span.t && !mCovers x.mode y.mode
theorem c90 (x y : Lock) (T1 T2 : List Blk) (B0 : Blk) (rest : List Blk) (H : List (List Blk)) : CallEq X (T1 :: T2 :: (B0 :: bLock x :: rest) :: H) 90 [pLock y, .ptr 3 1 0] (.d (.bool (lWeak x y))) [] := by
  unfold lWeak
  refine callEq_of_body X_ok rfl Try.func90 rfl ?_
  conv => whnf
  repeat' (first
    | (refine And.intro (fun h_ => ?_) (fun h_ => ?_) <;> (conv => whnf))
    | (refine ⟨_, _, c87 _ _ _, (by first | exact True.intro | exact And.intro rfl flat_nil), ?_⟩; conv => whnf)
    | (intro z_ hz_; conv => whnf)
    | (refine ⟨[], rfl, ?_, True.intro⟩; (conv => whnf); (first | done | (simp_all only [refP, Bool.not_true, Bool.not_false, Bool.true_and, Bool.false_and, Bool.and_true, Bool.and_false, Bool.true_or, Bool.false_or, Bool.or_true, Bool.or_false, Bool.not_not, Bool.not_eq_true', Bool.not_eq_false', if_true, if_false, Bool.false_eq_true, Bool.true_eq_false, List.length_map]; done))))
theorem i90 (p : Lock → Bool) (l0 i0 : Nat) (xs : List Lock) (H : List (List Blk)) (hlen : xs.length < 1000000) (hp : ∀ x, x ∈ xs → ∀ T, CallEq X (T :: H) 90 [pLock x, .ptr (l0 + 2) i0 0] (.d (.bool (p x))) []) :
    CallEq X H 82 [.d (.sl (xs.map cLock)), .func (.func 90) [] [.ptr (l0 + 1) i0 0]] (.d (.int .i64 (idxOf p xs 0))) [] := by
  refine callEq_of_body X_ok rfl Try.func82 rfl ?_
  conv => whnf
  refine loopV_of (fun k : Nat => ⟨[.d (.sl (xs.map cLock)), .func (.func 90) [] [.ptr (l0 + 1) i0 0], .any, .any, .any, .any, .any, .d (.int .i64 (xs.map cLock).length), .d (.int .i64 k), .any, .any, .any, .any, .any, .any, .any, .any, .any, .any], []⟩) (fun k => k ≤ xs.length ∧ idxOf p xs 0 = idxOf p (xs.drop k) k) (fun k => xs.length - k) 0 [] ⟨Nat.zero_le _, by simp⟩ ?_ ?_
  · refine And.intro rfl (And.intro ?_ True.intro)
    repeat' (first | exact True.intro | exact rfl | refine And.intro ?_ ?_)
  · rintro k ⟨hk, hidx⟩
    conv => whnf
    refine And.intro (fun h_ => ?_) (fun h_ => ?_)
    · conv => whnf
      have hk' : k < xs.length := by simpa using h_
      obtain ⟨x, hx⟩ : ∃ x, xs[k]? = some x := ⟨_, List.getElem?_eq_getElem hk'⟩
      have hst := idxOf_step (p := p) hx
      refine ⟨by omega, cLock x, by simp [hx], rfl, ?_⟩
      conv => whnf
      refine ⟨_, _, hp x (List.mem_of_getElem? hx) _, True.intro, ?_⟩
      conv => whnf
      refine And.intro (fun h1 => ?_) (fun h1 => ?_)
      · conv => whnf
        refine ⟨[], rfl, ?_, True.intro⟩
        show DV.int .i64 (k : Int) = .int .i64 (idxOf p xs 0)
        rw [hidx, hst, h1]; rfl
      · conv => whnf
        intro z hz
        conv => whnf
        rw [wrap_small (by omega) (by omega)] at hz
        subst hz
        refine ⟨k + 1, [], ⟨by omega, ?_⟩, by omega, And.intro rfl (And.intro ?_ True.intro)⟩
        · rw [hidx, hst, h1]; rfl
        · repeat' (first | exact True.intro | exact rfl | refine And.intro ?_ ?_)
    · conv => whnf
      have hk' : k = xs.length := by simp at h_; omega
      refine ⟨[], rfl, ?_, True.intro⟩
      show DV.int .i64 (-1) = .int .i64 (idxOf p xs 0)
      rw [hidx, hk', List.drop_length]; rfl
theorem c51b (p : Lock → Bool) (l0 i0 : Nat) (xs : List Lock) (hl : xs.length < 1000000) (H : List (List Blk)) (hp : ∀ x, x ∈ xs → ∀ T T', CallEq X (T :: T' :: H) 90 [pLock x, .ptr (l0 + 3) i0 0] (.d (.bool (p x))) []) : CallEq X H 51 [.d (encLocks xs), .func (.func 90) [] [.ptr (l0 + 1) i0 0]] (.d (.bool (xs.any p))) [] := by
  rw [← idxOf_ge _ xs 0 (Int.le_refl _)]
  refine callEq_of_body X_ok rfl Try.func51 rfl ?_
  conv => whnf
  repeat' (first
    | (refine And.intro (fun h_ => ?_) (fun h_ => ?_) <;> (conv => whnf))
    | (refine ⟨_, _, i90 p _ _ xs _ hl (fun x hx T => hp x hx T _), (by first | exact True.intro | exact And.intro rfl flat_nil), ?_⟩; conv => whnf)
    | (intro z_ hz_; conv => whnf)
    | (refine ⟨[], rfl, ?_, True.intro⟩; (conv => whnf); (first | done | (simp_all only [refP, Bool.not_true, Bool.not_false, Bool.true_and, Bool.false_and, Bool.and_true, Bool.and_false, Bool.true_or, Bool.false_or, Bool.or_true, Bool.or_false, Bool.not_not, Bool.not_eq_true', Bool.not_eq_false', if_true, if_false, Bool.false_eq_true, Bool.true_eq_false, List.length_map]; done))))
theorem c53 (l : Locks) (x : Lock) (hl : l.held.length < 1000000) (H : List (List Blk)) : CallEq X H 53 [pLocks l, pLock x] (.d (.bool (l.held.any (lWeak x)))) [] := by
  refine callEq_of_body X_ok rfl Try.func53 rfl ?_
  conv => whnf
  repeat' (first
    | (refine And.intro (fun h_ => ?_) (fun h_ => ?_) <;> (conv => whnf))
    | (refine ⟨_, _, c51b (lWeak x) 0 1 l.held hl _ (fun y _ T T' => c90 x y _ _ _ _ _), (by first | exact True.intro | exact And.intro rfl flat_nil), ?_⟩; conv => whnf)
    | (intro z_ hz_; conv => whnf)
    | (refine ⟨[], rfl, ?_, True.intro⟩; (conv => whnf); (first | done | (simp_all only [refP, Bool.not_true, Bool.not_false, Bool.true_and, Bool.false_and, Bool.and_true, Bool.and_false, Bool.true_or, Bool.false_or, Bool.or_true, Bool.or_false, Bool.not_not, Bool.not_eq_true', Bool.not_eq_false', if_true, if_false, Bool.false_eq_true, Bool.true_eq_false, List.length_map]; done))))
theorem i53 (p : Lock → Bool) (l : Locks) (xs : List Lock) (H : List (List Blk)) (hlen : xs.length < 1000000) (hp : ∀ x, x ∈ xs → ∀ T, CallEq X (T :: H) 53 [pLocks l, pLock x] (.d (.bool (p x))) []) :
    CallEq X H 82 [.d (.sl (xs.map cLock)), .func (.func 53) [pLocks l] []] (.d (.int .i64 (idxOf p xs 0))) [] := by
  refine callEq_of_body X_ok rfl Try.func82 rfl ?_
  conv => whnf
  refine loopV_of (fun k : Nat => ⟨[.d (.sl (xs.map cLock)), .func (.func 53) [pLocks l] [], .any, .any, .any, .any, .any, .d (.int .i64 (xs.map cLock).length), .d (.int .i64 k), .any, .any, .any, .any, .any, .any, .any, .any, .any, .any], []⟩) (fun k => k ≤ xs.length ∧ idxOf p xs 0 = idxOf p (xs.drop k) k) (fun k => xs.length - k) 0 [] ⟨Nat.zero_le _, by simp⟩ ?_ ?_
  · refine And.intro rfl (And.intro ?_ True.intro)
    repeat' (first | exact True.intro | exact rfl | refine And.intro ?_ ?_)
  · rintro k ⟨hk, hidx⟩
    conv => whnf
    refine And.intro (fun h_ => ?_) (fun h_ => ?_)
    · conv => whnf
      have hk' : k < xs.length := by simpa using h_
      obtain ⟨x, hx⟩ : ∃ x, xs[k]? = some x := ⟨_, List.getElem?_eq_getElem hk'⟩
      have hst := idxOf_step (p := p) hx
      refine ⟨by omega, cLock x, by simp [hx], rfl, ?_⟩
      conv => whnf
      refine ⟨_, _, hp x (List.mem_of_getElem? hx) _, True.intro, ?_⟩
      conv => whnf
      refine And.intro (fun h1 => ?_) (fun h1 => ?_)
      · conv => whnf
        refine ⟨[], rfl, ?_, True.intro⟩
        show DV.int .i64 (k : Int) = .int .i64 (idxOf p xs 0)
        rw [hidx, hst, h1]; rfl
      · conv => whnf
        intro z hz
        conv => whnf
        rw [wrap_small (by omega) (by omega)] at hz
        subst hz
        refine ⟨k + 1, [], ⟨by omega, ?_⟩, by omega, And.intro rfl (And.intro ?_ True.intro)⟩
        · rw [hidx, hst, h1]; rfl
        · repeat' (first | exact True.intro | exact rfl | refine And.intro ?_ ?_)
    · conv => whnf
      have hk' : k = xs.length := by simp at h_; omega
      refine ⟨[], rfl, ?_, True.intro⟩
      show DV.int .i64 (-1) = .int .i64 (idxOf p xs 0)
      rw [hidx, hk', List.drop_length]; rfl
theorem c51c (l : Locks) (xs : List Lock) (hl : xs.length < 1000000) (hl' : l.held.length < 1000000) (H : List (List Blk)) : CallEq X H 51 [.d (encLocks xs), .func (.func 53) [pLocks l] []] (.d (.bool (xs.any fun x => l.held.any (lWeak x)))) [] := by
  rw [← idxOf_ge _ xs 0 (Int.le_refl _)]
  refine callEq_of_body X_ok rfl Try.func51 rfl ?_
  conv => whnf
  repeat' (first
    | (refine And.intro (fun h_ => ?_) (fun h_ => ?_) <;> (conv => whnf))
    | (refine ⟨_, _, i53 (fun x => l.held.any (lWeak x)) l xs _ hl (fun x _ T => c53 l x hl' _), (by first | exact True.intro | exact And.intro rfl flat_nil), ?_⟩; conv => whnf)
    | (intro z_ hz_; conv => whnf)
    | (refine ⟨[], rfl, ?_, True.intro⟩; (conv => whnf); (first | done | (simp_all only [refP, Bool.not_true, Bool.not_false, Bool.true_and, Bool.false_and, Bool.and_true, Bool.and_false, Bool.true_or, Bool.false_or, Bool.or_true, Bool.or_false, Bool.not_not, Bool.not_eq_true', Bool.not_eq_false', if_true, if_false, Bool.false_eq_true, Bool.true_eq_false, List.length_map]; done))))
def lTwice (x y : Lock) : Bool := lClash x y || (x.whole && y.whole && x.owner == y.owner && x.span.t == y.span.t)
theorem c89 (x y : Lock) (T1 T2 : List Blk) (B0 : Blk) (rest : List Blk) (H : List (List Blk)) : CallEq X (T1 :: T2 :: (B0 :: bLock x :: rest) :: H) 89 [pLock y, .ptr 3 1 0] (.d (.bool (lTwice x y))) [] := by
  unfold lTwice
  refine callEq_of_body X_ok rfl Try.func89 rfl ?_
  conv => whnf
  repeat' (first
    | (refine And.intro (fun h_ => ?_) (fun h_ => ?_) <;> (conv => whnf))
    | (refine ⟨_, _, c21 x y _, (by first | exact True.intro | exact And.intro rfl flat_nil), ?_⟩; conv => whnf)
    | (intro z_ hz_; conv => whnf)
    | (refine ⟨[], rfl, ?_, True.intro⟩; (conv => whnf); (first | done | (simp_all only [refP, Bool.not_true, Bool.not_false, Bool.true_and, Bool.false_and, Bool.and_true, Bool.and_false, Bool.true_or, Bool.false_or, Bool.or_true, Bool.or_false, Bool.not_not, Bool.not_eq_true', Bool.not_eq_false', if_true, if_false, Bool.false_eq_true, Bool.true_eq_false, List.length_map]; done))))
theorem i89 (p : Lock → Bool) (l0 i0 : Nat) (xs : List Lock) (H : List (List Blk)) (hlen : xs.length < 1000000) (hp : ∀ x, x ∈ xs → ∀ T, CallEq X (T :: H) 89 [pLock x, .ptr (l0 + 2) i0 0] (.d (.bool (p x))) []) :
    CallEq X H 82 [.d (.sl (xs.map cLock)), .func (.func 89) [] [.ptr (l0 + 1) i0 0]] (.d (.int .i64 (idxOf p xs 0))) [] := by
  refine callEq_of_body X_ok rfl Try.func82 rfl ?_
  conv => whnf
  refine loopV_of (fun k : Nat => ⟨[.d (.sl (xs.map cLock)), .func (.func 89) [] [.ptr (l0 + 1) i0 0], .any, .any, .any, .any, .any, .d (.int .i64 (xs.map cLock).length), .d (.int .i64 k), .any, .any, .any, .any, .any, .any, .any, .any, .any, .any], []⟩) (fun k => k ≤ xs.length ∧ idxOf p xs 0 = idxOf p (xs.drop k) k) (fun k => xs.length - k) 0 [] ⟨Nat.zero_le _, by simp⟩ ?_ ?_
  · refine And.intro rfl (And.intro ?_ True.intro)
    repeat' (first | exact True.intro | exact rfl | refine And.intro ?_ ?_)
  · rintro k ⟨hk, hidx⟩
    conv => whnf
    refine And.intro (fun h_ => ?_) (fun h_ => ?_)
    · conv => whnf
      have hk' : k < xs.length := by simpa using h_
      obtain ⟨x, hx⟩ : ∃ x, xs[k]? = some x := ⟨_, List.getElem?_eq_getElem hk'⟩
      have hst := idxOf_step (p := p) hx
      refine ⟨by omega, cLock x, by simp [hx], rfl, ?_⟩
      conv => whnf
      refine ⟨_, _, hp x (List.mem_of_getElem? hx) _, True.intro, ?_⟩
      conv => whnf
      refine And.intro (fun h1 => ?_) (fun h1 => ?_)
      · conv => whnf
        refine ⟨[], rfl, ?_, True.intro⟩
        show DV.int .i64 (k : Int) = .int .i64 (idxOf p xs 0)
        rw [hidx, hst, h1]; rfl
      · conv => whnf
        intro z hz
        conv => whnf
        rw [wrap_small (by omega) (by omega)] at hz
        subst hz
        refine ⟨k + 1, [], ⟨by omega, ?_⟩, by omega, And.intro rfl (And.intro ?_ True.intro)⟩
        · rw [hidx, hst, h1]; rfl
        · repeat' (first | exact True.intro | exact rfl | refine And.intro ?_ ?_)
    · conv => whnf
      have hk' : k = xs.length := by simp at h_; omega
      refine ⟨[], rfl, ?_, True.intro⟩
      show DV.int .i64 (-1) = .int .i64 (idxOf p xs 0)
      rw [hidx, hk', List.drop_length]; rfl
theorem c51d (p : Lock → Bool) (l0 i0 : Nat) (xs : List Lock) (hl : xs.length < 1000000) (H : List (List Blk)) (hp : ∀ x, x ∈ xs → ∀ T T', CallEq X (T :: T' :: H) 89 [pLock x, .ptr (l0 + 3) i0 0] (.d (.bool (p x))) []) : CallEq X H 51 [.d (encLocks xs), .func (.func 89) [] [.ptr (l0 + 1) i0 0]] (.d (.bool (xs.any p))) [] := by
  rw [← idxOf_ge _ xs 0 (Int.le_refl _)]
  refine callEq_of_body X_ok rfl Try.func51 rfl ?_
  conv => whnf
  repeat' (first
    | (refine And.intro (fun h_ => ?_) (fun h_ => ?_) <;> (conv => whnf))
    | (refine ⟨_, _, i89 p _ _ xs _ hl (fun x hx T => hp x hx T _), (by first | exact True.intro | exact And.intro rfl flat_nil), ?_⟩; conv => whnf)
    | (intro z_ hz_; conv => whnf)
    | (refine ⟨[], rfl, ?_, True.intro⟩; (conv => whnf); (first | done | (simp_all only [refP, Bool.not_true, Bool.not_false, Bool.true_and, Bool.false_and, Bool.and_true, Bool.and_false, Bool.true_or, Bool.false_or, Bool.or_true, Bool.or_false, Bool.not_not, Bool.not_eq_true', Bool.not_eq_false', if_true, if_false, Bool.false_eq_true, Bool.true_eq_false, List.length_map]; done))))
end Go.Proofs.Ve
