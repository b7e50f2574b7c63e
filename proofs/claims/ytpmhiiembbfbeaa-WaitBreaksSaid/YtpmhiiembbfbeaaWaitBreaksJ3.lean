/- WaitBreaks, part 3 of 4. The engine and the contracts that the proof needs. -/
import Derived.Sort.OwnSortedInts
import Derived.Lib.Bytealg
import Derived.Laws.Strings
import Derived.Test.YtpmhiiembbfbeaaWaitBreaksJ1
import Derived.Test.YtpmhiiembbfbeaaWaitBreaksJ2
/- Locks that are weaker, or not single: contracts. -/
set_option maxRecDepth 100000
set_option linter.all false
namespace Go.Proofs.Ve
open Go
def bLock (x : Lock) : Blk := .box [.d (.int .i64 x.owner), .d (.bool x.whole), .d (.int .i64 x.span.t), .d (encB x.span.lo), .d (encB x.span.hi), .d (.bool x.span.op), .d (.int .i64 x.mode)]
def lWeak (x y : Lock) : Bool := x.whole && y.whole && x.owner == y.owner && x.span.t == y.span.t && !mCovers x.mode y.mode
theorem c90 (x y : Lock) (T1 T2 : List Blk) (B0 : Blk) (rest : List Blk) (H : List (List Blk)) : CallEq X (T1 :: T2 :: (B0 :: bLock x :: rest) :: H) 90 [pLock y, .ptr 3 1 0] (.d (.bool (lWeak x y))) [] := by
  unfold lWeak
  refine callEq_of_body X_ok rfl Try.func90 rfl ?_
  conv => whnf
  repeat' (first
    | (refine And.intro (fun h_ => ?_) (fun h_ => ?_) <;> (conv => whnf))
    | (refine ⟨_, _, c87 _ _ _, (by first | exact True.intro | exact And.intro rfl flat_nil), ?_⟩; conv => whnf)
    | (intro z_ hz_; conv => whnf)
    | (refine ⟨[], rfl, ?_, True.intro⟩; (conv => whnf); (first | done | (simp_all only [refP, Bool.not_true, Bool.not_false, Bool.true_and, Bool.false_and, Bool.and_true, Bool.and_false, Bool.true_or, Bool.false_or, Bool.or_true, Bool.or_false, Bool.not_not, Bool.not_eq_true', Bool.not_eq_false', if_true, if_false, Bool.false_eq_true, Bool.true_eq_false, List.length_map]; done)))
    | fail)
theorem i90 (p : Lock → Bool) (l0 i0 : Nat) (xs : List Lock) (H : List (List Blk)) (hlen : xs.length < 1000000) (hp : ∀ x, x ∈ xs → ∀ T, CallEq X (T :: H) 90 [pLock x, .ptr (l0 + 2) i0 0] (.d (.bool (p x))) []) :
    CallEq X H 82 [.d (.sl (xs.map cLock)), .func (.func 90) [] [.ptr (l0 + 1) i0 0]] (.d (.int .i64 (idxOf p xs 0))) [] := by
  refine callEq_of_body X_ok rfl Try.func82 rfl ?_
  conv => whnf
  refine loopV_of (fun k : Nat => ⟨[.d (.sl (xs.map cLock)), .func (.func 90) [] [.ptr (l0 + 1) i0 0], .any, .any, .any, .any, .any, .d (.int .i64 (xs.map cLock).length), .d (.int .i64 k), .any, .any, .any, .any, .any, .any, .any, .any, .any, .any], []⟩) (fun k => k ≤ xs.length ∧ idxOf p xs 0 = idxOf p (xs.drop k) k) (fun k => xs.length - k) 0 [] ⟨Nat.zero_le _, by simp⟩ ?_ ?_
  · refine And.intro rfl (And.intro ?_ True.intro)
    repeat' (first | exact True.intro | exact rfl | refine And.intro ?_ ?_)
  · rintro k ⟨hk, hidx⟩
    conv => whnf
    refine And.intro (fun h_ => ?_) (fun h_ => ?_)
    · conv => whnf
      have hk' : k < xs.length := by simpa using h_
      obtain ⟨x, hx⟩ : ∃ x, xs[k]? = some x := ⟨_, List.getElem?_eq_getElem hk'⟩
      have hst := idxOf_step (p := p) hx
      refine ⟨by omega, cLock x, by simp [hx], rfl, ?_⟩
      conv => whnf
      refine ⟨_, _, hp x (List.mem_of_getElem? hx) _, True.intro, ?_⟩
      conv => whnf
      refine And.intro (fun h1 => ?_) (fun h1 => ?_)
      · conv => whnf
        refine ⟨[], rfl, ?_, True.intro⟩
        show DV.int .i64 (k : Int) = .int .i64 (idxOf p xs 0)
        rw [hidx, hst, h1]; rfl
      · conv => whnf
        intro z hz
        conv => whnf
        rw [wrap_small (by omega) (by omega)] at hz
        subst hz
        refine ⟨k + 1, [], ⟨by omega, ?_⟩, by omega, And.intro rfl (And.intro ?_ True.intro)⟩
        · rw [hidx, hst, h1]; rfl
        · repeat' (first | exact True.intro | exact rfl | refine And.intro ?_ ?_)
    · conv => whnf
      have hk' : k = xs.length := by simp at h_; omega
      refine ⟨[], rfl, ?_, True.intro⟩
      show DV.int .i64 (-1) = .int .i64 (idxOf p xs 0)
      rw [hidx, hk', List.drop_length]; rfl
theorem c51b (p : Lock → Bool) (l0 i0 : Nat) (xs : List Lock) (hl : xs.length < 1000000) (H : List (List Blk)) (hp : ∀ x, x ∈ xs → ∀ T T', CallEq X (T :: T' :: H) 90 [pLock x, .ptr (l0 + 3) i0 0] (.d (.bool (p x))) []) : CallEq X H 51 [.d (encLocks xs), .func (.func 90) [] [.ptr (l0 + 1) i0 0]] (.d (.bool (xs.any p))) [] := by
  rw [← idxOf_ge _ xs 0 (Int.le_refl _)]
  refine callEq_of_body X_ok rfl Try.func51 rfl ?_
  conv => whnf
  repeat' (first
    | (refine And.intro (fun h_ => ?_) (fun h_ => ?_) <;> (conv => whnf))
    | (refine ⟨_, _, i90 p _ _ xs _ hl (fun x hx T => hp x hx T _), (by first | exact True.intro | exact And.intro rfl flat_nil), ?_⟩; conv => whnf)
    | (intro z_ hz_; conv => whnf)
    | (refine ⟨[], rfl, ?_, True.intro⟩; (conv => whnf); (first | done | (simp_all only [refP, Bool.not_true, Bool.not_false, Bool.true_and, Bool.false_and, Bool.and_true, Bool.and_false, Bool.true_or, Bool.false_or, Bool.or_true, Bool.or_false, Bool.not_not, Bool.not_eq_true', Bool.not_eq_false', if_true, if_false, Bool.false_eq_true, Bool.true_eq_false, List.length_map]; done)))
    | fail)
theorem c53 (l : Locks) (x : Lock) (hl : l.held.length < 1000000) (H : List (List Blk)) : CallEq X H 53 [pLocks l, pLock x] (.d (.bool (l.held.any (lWeak x)))) [] := by
  refine callEq_of_body X_ok rfl Try.func53 rfl ?_
  conv => whnf
  repeat' (first
    | (refine And.intro (fun h_ => ?_) (fun h_ => ?_) <;> (conv => whnf))
    | (refine ⟨_, _, c51b (lWeak x) 0 1 l.held hl _ (fun y _ T T' => c90 x y _ _ _ _ _), (by first | exact True.intro | exact And.intro rfl flat_nil), ?_⟩; conv => whnf)
    | (intro z_ hz_; conv => whnf)
    | (refine ⟨[], rfl, ?_, True.intro⟩; (conv => whnf); (first | done | (simp_all only [refP, Bool.not_true, Bool.not_false, Bool.true_and, Bool.false_and, Bool.and_true, Bool.and_false, Bool.true_or, Bool.false_or, Bool.or_true, Bool.or_false, Bool.not_not, Bool.not_eq_true', Bool.not_eq_false', if_true, if_false, Bool.false_eq_true, Bool.true_eq_false, List.length_map]; done)))
    | fail)
theorem i53 (p : Lock → Bool) (l : Locks) (xs : List Lock) (H : List (List Blk)) (hlen : xs.length < 1000000) (hp : ∀ x, x ∈ xs → ∀ T, CallEq X (T :: H) 53 [pLocks l, pLock x] (.d (.bool (p x))) []) :
    CallEq X H 82 [.d (.sl (xs.map cLock)), .func (.func 53) [pLocks l] []] (.d (.int .i64 (idxOf p xs 0))) [] := by
  refine callEq_of_body X_ok rfl Try.func82 rfl ?_
  conv => whnf
  refine loopV_of (fun k : Nat => ⟨[.d (.sl (xs.map cLock)), .func (.func 53) [pLocks l] [], .any, .any, .any, .any, .any, .d (.int .i64 (xs.map cLock).length), .d (.int .i64 k), .any, .any, .any, .any, .any, .any, .any, .any, .any, .any], []⟩) (fun k => k ≤ xs.length ∧ idxOf p xs 0 = idxOf p (xs.drop k) k) (fun k => xs.length - k) 0 [] ⟨Nat.zero_le _, by simp⟩ ?_ ?_
  · refine And.intro rfl (And.intro ?_ True.intro)
    repeat' (first | exact True.intro | exact rfl | refine And.intro ?_ ?_)
  · rintro k ⟨hk, hidx⟩
    conv => whnf
    refine And.intro (fun h_ => ?_) (fun h_ => ?_)
    · conv => whnf
      have hk' : k < xs.length := by simpa using h_
      obtain ⟨x, hx⟩ : ∃ x, xs[k]? = some x := ⟨_, List.getElem?_eq_getElem hk'⟩
      have hst := idxOf_step (p := p) hx
      refine ⟨by omega, cLock x, by simp [hx], rfl, ?_⟩
      conv => whnf
      refine ⟨_, _, hp x (List.mem_of_getElem? hx) _, True.intro, ?_⟩
      conv => whnf
      refine And.intro (fun h1 => ?_) (fun h1 => ?_)
      · conv => whnf
        refine ⟨[], rfl, ?_, True.intro⟩
        show DV.int .i64 (k : Int) = .int .i64 (idxOf p xs 0)
        rw [hidx, hst, h1]; rfl
      · conv => whnf
        intro z hz
        conv => whnf
        rw [wrap_small (by omega) (by omega)] at hz
        subst hz
        refine ⟨k + 1, [], ⟨by omega, ?_⟩, by omega, And.intro rfl (And.intro ?_ True.intro)⟩
        · rw [hidx, hst, h1]; rfl
        · repeat' (first | exact True.intro | exact rfl | refine And.intro ?_ ?_)
    · conv => whnf
      have hk' : k = xs.length := by simp at h_; omega
      refine ⟨[], rfl, ?_, True.intro⟩
      show DV.int .i64 (-1) = .int .i64 (idxOf p xs 0)
      rw [hidx, hk', List.drop_length]; rfl
theorem c51c (l : Locks) (xs : List Lock) (hl : xs.length < 1000000) (hl' : l.held.length < 1000000) (H : List (List Blk)) : CallEq X H 51 [.d (encLocks xs), .func (.func 53) [pLocks l] []] (.d (.bool (xs.any fun x => l.held.any (lWeak x)))) [] := by
  rw [← idxOf_ge _ xs 0 (Int.le_refl _)]
  refine callEq_of_body X_ok rfl Try.func51 rfl ?_
  conv => whnf
  repeat' (first
    | (refine And.intro (fun h_ => ?_) (fun h_ => ?_) <;> (conv => whnf))
    | (refine ⟨_, _, i53 (fun x => l.held.any (lWeak x)) l xs _ hl (fun x _ T => c53 l x hl' _), (by first | exact True.intro | exact And.intro rfl flat_nil), ?_⟩; conv => whnf)
    | (intro z_ hz_; conv => whnf)
    | (refine ⟨[], rfl, ?_, True.intro⟩; (conv => whnf); (first | done | (simp_all only [refP, Bool.not_true, Bool.not_false, Bool.true_and, Bool.false_and, Bool.and_true, Bool.and_false, Bool.true_or, Bool.false_or, Bool.or_true, Bool.or_false, Bool.not_not, Bool.not_eq_true', Bool.not_eq_false', if_true, if_false, Bool.false_eq_true, Bool.true_eq_false, List.length_map]; done)))
    | fail)
def lTwice (x y : Lock) : Bool := lClash x y || (x.whole && y.whole && x.owner == y.owner && x.span.t == y.span.t)
theorem c89 (x y : Lock) (T1 T2 : List Blk) (B0 : Blk) (rest : List Blk) (H : List (List Blk)) : CallEq X (T1 :: T2 :: (B0 :: bLock x :: rest) :: H) 89 [pLock y, .ptr 3 1 0] (.d (.bool (lTwice x y))) [] := by
  unfold lTwice
  refine callEq_of_body X_ok rfl Try.func89 rfl ?_
  conv => whnf
  repeat' (first
    | (refine And.intro (fun h_ => ?_) (fun h_ => ?_) <;> (conv => whnf))
    | (refine ⟨_, _, c21 x y _, (by first | exact True.intro | exact And.intro rfl flat_nil), ?_⟩; conv => whnf)
    | (intro z_ hz_; conv => whnf)
    | (refine ⟨[], rfl, ?_, True.intro⟩; (conv => whnf); (first | done | (simp_all only [refP, Bool.not_true, Bool.not_false, Bool.true_and, Bool.false_and, Bool.and_true, Bool.and_false, Bool.true_or, Bool.false_or, Bool.or_true, Bool.or_false, Bool.not_not, Bool.not_eq_true', Bool.not_eq_false', if_true, if_false, Bool.false_eq_true, Bool.true_eq_false, List.length_map]; done)))
    | fail)
theorem i89 (p : Lock → Bool) (l0 i0 : Nat) (xs : List Lock) (H : List (List Blk)) (hlen : xs.length < 1000000) (hp : ∀ x, x ∈ xs → ∀ T, CallEq X (T :: H) 89 [pLock x, .ptr (l0 + 2) i0 0] (.d (.bool (p x))) []) :
    CallEq X H 82 [.d (.sl (xs.map cLock)), .func (.func 89) [] [.ptr (l0 + 1) i0 0]] (.d (.int .i64 (idxOf p xs 0))) [] := by
  refine callEq_of_body X_ok rfl Try.func82 rfl ?_
  conv => whnf
  refine loopV_of (fun k : Nat => ⟨[.d (.sl (xs.map cLock)), .func (.func 89) [] [.ptr (l0 + 1) i0 0], .any, .any, .any, .any, .any, .d (.int .i64 (xs.map cLock).length), .d (.int .i64 k), .any, .any, .any, .any, .any, .any, .any, .any, .any, .any], []⟩) (fun k => k ≤ xs.length ∧ idxOf p xs 0 = idxOf p (xs.drop k) k) (fun k => xs.length - k) 0 [] ⟨Nat.zero_le _, by simp⟩ ?_ ?_
  · refine And.intro rfl (And.intro ?_ True.intro)
    repeat' (first | exact True.intro | exact rfl | refine And.intro ?_ ?_)
  · rintro k ⟨hk, hidx⟩
    conv => whnf
    refine And.intro (fun h_ => ?_) (fun h_ => ?_)
    · conv => whnf
      have hk' : k < xs.length := by simpa using h_
      obtain ⟨x, hx⟩ : ∃ x, xs[k]? = some x := ⟨_, List.getElem?_eq_getElem hk'⟩
      have hst := idxOf_step (p := p) hx
      refine ⟨by omega, cLock x, by simp [hx], rfl, ?_⟩
      conv => whnf
      refine ⟨_, _, hp x (List.mem_of_getElem? hx) _, True.intro, ?_⟩
      conv => whnf
      refine And.intro (fun h1 => ?_) (fun h1 => ?_)
      · conv => whnf
        refine ⟨[], rfl, ?_, True.intro⟩
        show DV.int .i64 (k : Int) = .int .i64 (idxOf p xs 0)
        rw [hidx, hst, h1]; rfl
      · conv => whnf
        intro z hz
        conv => whnf
        rw [wrap_small (by omega) (by omega)] at hz
        subst hz
        refine ⟨k + 1, [], ⟨by omega, ?_⟩, by omega, And.intro rfl (And.intro ?_ True.intro)⟩
        · rw [hidx, hst, h1]; rfl
        · repeat' (first | exact True.intro | exact rfl | refine And.intro ?_ ?_)
    · conv => whnf
      have hk' : k = xs.length := by simp at h_; omega
      refine ⟨[], rfl, ?_, True.intro⟩
      show DV.int .i64 (-1) = .int .i64 (idxOf p xs 0)
      rw [hidx, hk', List.drop_length]; rfl
theorem c51d (p : Lock → Bool) (l0 i0 : Nat) (xs : List Lock) (hl : xs.length < 1000000) (H : List (List Blk)) (hp : ∀ x, x ∈ xs → ∀ T T', CallEq X (T :: T' :: H) 89 [pLock x, .ptr (l0 + 3) i0 0] (.d (.bool (p x))) []) : CallEq X H 51 [.d (encLocks xs), .func (.func 89) [] [.ptr (l0 + 1) i0 0]] (.d (.bool (xs.any p))) [] := by
  rw [← idxOf_ge _ xs 0 (Int.le_refl _)]
  refine callEq_of_body X_ok rfl Try.func51 rfl ?_
  conv => whnf
  repeat' (first
    | (refine And.intro (fun h_ => ?_) (fun h_ => ?_) <;> (conv => whnf))
    | (refine ⟨_, _, i89 p _ _ xs _ hl (fun x hx T => hp x hx T _), (by first | exact True.intro | exact And.intro rfl flat_nil), ?_⟩; conv => whnf)
    | (intro z_ hz_; conv => whnf)
    | (refine ⟨[], rfl, ?_, True.intro⟩; (conv => whnf); (first | done | (simp_all only [refP, Bool.not_true, Bool.not_false, Bool.true_and, Bool.false_and, Bool.and_true, Bool.and_false, Bool.true_or, Bool.false_or, Bool.or_true, Bool.or_false, Bool.not_not, Bool.not_eq_true', Bool.not_eq_false', if_true, if_false, Bool.false_eq_true, Bool.true_eq_false, List.length_map]; done)))
    | fail)
end Go.Proofs.Ve

/- Whether the locks held are single: a contract. -/
set_option maxRecDepth 100000
set_option linter.all false
namespace Go.Proofs.Ve
open Go
def singleFrom (pre : List Lock) : List Lock → Bool
  | [] => true
  | x :: xs => bif pre.any (lTwice x) then false else singleFrom (pre ++ [x]) xs
theorem single_step {l : List Lock} {k : Nat} {x : Lock} (h : l[k]? = some x) : singleFrom (l.take k) (l.drop k) = bif (l.take k).any (lTwice x) then false else singleFrom (l.take (k + 1)) (l.drop (k + 1)) := by
  have hk := (List.getElem?_eq_some_iff.1 h).1
  have hx : l[k] = x := (List.getElem?_eq_some_iff.1 h).2
  rw [List.drop_eq_getElem_cons hk, hx, singleFrom, List.take_add_one, h]; rfl
theorem c52 (l : Locks) (hl : l.held.length < 1000000) (H : List (List Blk)) : CallEq X H 52 [pLocks l] (.d (.bool (singleFrom [] l.held))) [] := by
  refine callEq_of_body X_ok rfl Try.func52 rfl ?_
  conv => whnf
  refine loopV_of (fun k : Nat => ⟨[.any, .ptr 0 0 0, .any, .any, .any, .any, .any, .any, .d (encLocks l.held), .d (.int .i64 (l.held.map cLock).length), .d (.int .i64 k), .any, .any, .any, .any, .any, .any, .any, .any, .any, .any, .any, .any, .any], [.box [.d (encLocks l.held), .d (encLocks l.queue)]]⟩)
    (fun k => k ≤ l.held.length ∧ singleFrom [] l.held = singleFrom (l.held.take k) (l.held.drop k)) (fun k => l.held.length - k) 0 [0] ⟨Nat.zero_le _, rfl⟩ ?_ ?_
  · refine And.intro rfl (And.intro ?_ ?_)
    all_goals repeat' (first | exact True.intro | exact rfl | refine And.intro ?_ ?_)
  · rintro k ⟨hk, hidx⟩
    conv => whnf
    refine And.intro (fun h_ => ?_) (fun h_ => ?_)
    · conv => whnf
      have hk' : k < l.held.length := by simpa using h_
      obtain ⟨x, hx⟩ : ∃ x, l.held[k]? = some x := ⟨_, List.getElem?_eq_getElem hk'⟩
      have hst := single_step hx
      refine ⟨by omega, cLock x, by simp [hx], rfl, ?_⟩
      conv => whnf
      refine ⟨by omega, by simp; omega, ?_⟩
      conv => whnf
      have hc := fun (B0 : Blk) (rest : List Blk) (H : List (List Blk)) => c51d (lTwice x) 0 1 (l.held.take k) (by simp; omega) ((B0 :: bLock x :: rest) :: H) (fun y _ T T' => c89 x y T T' B0 rest H)
      rw [show encLocks (l.held.take k) = .sl (List.take (k : Int).toNat (l.held.map cLock)) by rw [encLocks, List.map_take]; rfl] at hc
      refine ⟨_, _, hc _ _ _, True.intro, ?_⟩
      conv => whnf
      refine And.intro (fun h1 => ?_) (fun h1 => ?_)
      · conv => whnf
        refine ⟨[], rfl, ?_, True.intro⟩
        show DV.bool false = .bool (singleFrom [] l.held)
        rw [hidx, hst, h1]; rfl
      · conv => whnf
        intro z hz
        conv => whnf
        rw [wrap_small (by omega) (by omega)] at hz
        subst hz
        refine ⟨k + 1, [0], ⟨by omega, ?_⟩, by omega, And.intro rfl (And.intro ?_ ?_)⟩
        · rw [hidx, hst, h1]; rfl
        all_goals repeat' (first | exact True.intro | exact rfl | refine And.intro ?_ ?_)
    · conv => whnf
      have hk' : k = l.held.length := by simp at h_; omega
      refine ⟨[], rfl, ?_, True.intro⟩
      show DV.bool true = .bool (singleFrom [] l.held)
      rw [hidx, hk', List.drop_length]; rfl
end Go.Proofs.Ve

/- The document's place of an owner's, and what it says covers; numbers that are the same. -/
set_option maxRecDepth 100000
set_option linter.all false
namespace Go.Proofs.Ve
open Go
def encI (l : List Int) : DV := .sl (l.map fun x => [.int .i64 x])
def sameFrom : List Int → List Int → Bool
  | [], _ => true
  | x :: xs, ys => match ys with | [] => true | y :: ys => bif x != y then false else sameFrom xs ys
theorem same_step {l m : List Int} {k : Nat} {x y : Int} (h : l[k]? = some x) (h' : m[k]? = some y) : sameFrom (l.drop k) (m.drop k) = bif x != y then false else sameFrom (l.drop (k + 1)) (m.drop (k + 1)) := by
  have hk := (List.getElem?_eq_some_iff.1 h).1
  have hm := (List.getElem?_eq_some_iff.1 h').1
  rw [List.drop_eq_getElem_cons hk, List.drop_eq_getElem_cons hm, (List.getElem?_eq_some_iff.1 h).2, (List.getElem?_eq_some_iff.1 h').2, sameFrom]
def numbers (a b : List Int) : Bool := if ((a.map fun x => [DV.int .i64 x]).length : Int) != ((b.map fun x => [DV.int .i64 x]).length : Int) then false else sameFrom a b
theorem c55 (a b : Int) (H : List (List Blk)) : CallEq X H 55 [.d (.int .i64 a), .d (.int .i64 b)] (.d (.bool (rCovers a b))) [] := by
  unfold rCovers and64
  refine callEq_of_body X_ok rfl Try.func55 rfl ?_
  conv => whnf
  repeat' (first
    | (refine And.intro (fun h_ => ?_) (fun h_ => ?_) <;> (conv => whnf))
    | (refine ⟨_, _, c91 _ _, (by first | exact True.intro | exact And.intro rfl flat_nil), ?_⟩; conv => whnf)
    | (intro z_ hz_; conv => whnf)
    | (refine ⟨[], rfl, ?_, True.intro⟩; (conv => whnf); (first | done | (simp_all only [refP, Bool.not_true, Bool.not_false, Bool.true_and, Bool.false_and, Bool.and_true, Bool.and_false, Bool.true_or, Bool.false_or, Bool.or_true, Bool.or_false, Bool.not_not, Bool.not_eq_true', Bool.not_eq_false', if_true, if_false, Bool.false_eq_true, Bool.true_eq_false, List.length_map]; done)))
    | fail)
theorem c46 (l : Locks) (o : Int) (hl : l.queue.length < 1000000) (H : List (List Blk)) : CallEq X H 46 [pLocks l, .d (.int .i64 o)] (.d (.int .i64 (place l.queue o))) [] := by
  unfold place
  refine callEq_of_body X_ok rfl Try.func46 rfl ?_
  conv => whnf
  refine loopV_of (fun k : Nat => ⟨[.any, .d (.int .i64 o), .ptr 0 0 0, .any, .any, .d (.int .i64 k), .any, .any, .any, .any, .any, .any, .any, .any, .any, .any, .any, .any, .any, .any, .any, .any], [.box [.d (encLocks l.held), .d (encLocks l.queue)]]⟩)
    (fun k => k ≤ l.queue.length ∧ idxOf (fun x => x.owner == o) l.queue 0 = idxOf (fun x => x.owner == o) (l.queue.drop k) k) (fun k => l.queue.length - k) 0 [0] ⟨Nat.zero_le _, rfl⟩ ?_ ?_
  · refine And.intro rfl (And.intro ?_ ?_)
    all_goals repeat' (first | exact True.intro | exact rfl | refine And.intro ?_ ?_)
  · rintro k ⟨hk, hidx⟩
    conv => whnf
    refine And.intro (fun h_ => ?_) (fun h_ => ?_)
    · conv => whnf
      have hk' : k < l.queue.length := by simpa using h_
      obtain ⟨x, hx⟩ : ∃ x, l.queue[k]? = some x := ⟨_, List.getElem?_eq_getElem hk'⟩
      have hst := idxOf_step (p := fun x => x.owner == o) hx
      refine ⟨by omega, cLock x, by simp [hx], rfl, ?_⟩
      conv => whnf
      refine And.intro (fun h1 => ?_) (fun h1 => ?_)
      · conv => whnf
        refine ⟨[], rfl, ?_, True.intro⟩
        show DV.int .i64 (k : Int) = .int .i64 (idxOf (fun x => x.owner == o) l.queue 0)
        rw [hidx, hst, h1]; rfl
      · conv => whnf
        intro z hz
        conv => whnf
        rw [wrap_small (by omega) (by omega)] at hz
        subst hz
        refine ⟨k + 1, [0], ⟨by omega, ?_⟩, by omega, And.intro rfl (And.intro ?_ ?_)⟩
        · rw [hidx, hst, h1]; rfl
        all_goals repeat' (first | exact True.intro | exact rfl | refine And.intro ?_ ?_)
    · conv => whnf
      have hk' : k = l.queue.length := by simp at h_; omega
      refine ⟨[], rfl, ?_, True.intro⟩
      show DV.int .i64 (-1) = .int .i64 (idxOf (fun x => x.owner == o) l.queue 0)
      rw [hidx, hk', List.drop_length]; rfl
theorem c16 (a b : List Int) (ha : a.length < 1000000) (H : List (List Blk)) : CallEq X H 16 [.d (encI a), .d (encI b)] (.d (.bool (numbers a b))) [] := by
  refine callEq_of_body X_ok rfl Try.func16 rfl ?_
  conv => whnf
  refine And.intro (fun h0 => ?_) (fun h0 => ?_)
  · conv => whnf
    refine ⟨[], rfl, ?_, True.intro⟩
    show DV.bool false = .bool (numbers a b)
    unfold numbers; rw [if_pos h0]
  · conv => whnf
    have hlen : a.length = b.length := by simp at h0; omega
    have hn : numbers a b = sameFrom a b := by unfold numbers; rw [h0]; rfl
    refine loopV_of (fun k : Nat => ⟨[.d (encI a), .d (encI b), .any, .any, .any, .d (.int .i64 k), .any, .any, .any, .any, .any, .any, .any, .any, .any, .any, .any, .any, .any, .any, .any, .any, .any, .any, .any, .any], []⟩)
      (fun k => k ≤ a.length ∧ numbers a b = sameFrom (a.drop k) (b.drop k)) (fun k => a.length - k) 0 [] ⟨Nat.zero_le _, hn⟩ ?_ ?_
    · refine And.intro rfl (And.intro ?_ ?_)
      all_goals repeat' (first | exact True.intro | exact rfl | refine And.intro ?_ ?_)
    · rintro k ⟨hk, hidx⟩
      conv => whnf
      refine And.intro (fun h_ => ?_) (fun h_ => ?_)
      · conv => whnf
        have hk' : k < a.length := by simpa using h_
        obtain ⟨x, hx⟩ : ∃ x, a[k]? = some x := ⟨_, List.getElem?_eq_getElem hk'⟩
        obtain ⟨y, hy⟩ : ∃ y, b[k]? = some y := ⟨_, List.getElem?_eq_getElem (by omega)⟩
        have hst := same_step hx hy
        refine ⟨by omega, [.int .i64 x], by simp [hx], rfl, ?_⟩
        conv => whnf
        refine ⟨by omega, [.int .i64 y], by simp [hy], rfl, ?_⟩
        conv => whnf
        refine And.intro (fun h1 => ?_) (fun h1 => ?_)
        · conv => whnf
          refine ⟨[], rfl, ?_, True.intro⟩
          show DV.bool false = .bool (numbers a b)
          rw [hidx, hst, h1]; rfl
        · conv => whnf
          intro z hz
          conv => whnf
          rw [wrap_small (by omega) (by omega)] at hz
          subst hz
          refine ⟨k + 1, [], ⟨by omega, ?_⟩, by omega, And.intro rfl (And.intro ?_ ?_)⟩
          · rw [hidx, hst, h1]; rfl
          all_goals repeat' (first | exact True.intro | exact rfl | refine And.intro ?_ ?_)
      · conv => whnf
        have hk' : k = a.length := by simp at h_; omega
        refine ⟨[], rfl, ?_, True.intro⟩
        show DV.bool true = .bool (numbers a b)
        rw [hidx, hk', List.drop_length]; rfl
end Go.Proofs.Ve

/- A few locks, of short spans. -/
set_option maxRecDepth 100000
set_option linter.all false
namespace Go.Proofs.Ve
open Go
def lLong (x : Lock) : Bool := decide (((x.span.lo.map fun b => [DV.int .u8 b.toNat]).length : Int) > 100) || decide (((x.span.hi.map fun b => [DV.int .u8 b.toNat]).length : Int) > 100)
def noLong : List Lock → Bool
  | [] => true
  | x :: xs => bif lLong x then false else noLong xs
theorem noLong_step {l : List Lock} {k : Nat} {x : Lock} (h : l[k]? = some x) : noLong (l.drop k) = bif lLong x then false else noLong (l.drop (k + 1)) := by
  have hk := (List.getElem?_eq_some_iff.1 h).1
  rw [List.drop_eq_getElem_cons hk, (List.getElem?_eq_some_iff.1 h).2, noLong]
def few (l : Locks) : Bool := if decide (((l.held.map cLock).length : Int) > 60) || decide (((l.queue.map cLock).length : Int) > 60) then false else bif noLong l.held then noLong l.queue else false
theorem long_a {x : Lock} (h : decide (((x.span.lo.map fun b => [DV.int .u8 b.toNat]).length : Int) > 100) = true) : lLong x = true := by unfold lLong; rw [h]; rfl
theorem long_b {x : Lock} (h : decide (((x.span.lo.map fun b => [DV.int .u8 b.toNat]).length : Int) > 100) = false) (h' : decide (((x.span.hi.map fun b => [DV.int .u8 b.toNat]).length : Int) > 100) = true) : lLong x = true := by unfold lLong; rw [h, h']; rfl
theorem long_c {x : Lock} (h : decide (((x.span.lo.map fun b => [DV.int .u8 b.toNat]).length : Int) > 100) = false) (h' : decide (((x.span.hi.map fun b => [DV.int .u8 b.toNat]).length : Int) > 100) = false) : lLong x = false := by unfold lLong; rw [h, h']; rfl
theorem c14 (l : Locks) (H : List (List Blk)) : CallEq X H 14 [pLocks l] (.d (.bool (few l))) [] := by
  refine callEq_of_body X_ok rfl Try.func14 rfl ?_
  conv => whnf
  have fin : decide (((l.held.map cLock).length : Int) > 60) = false → decide (((l.queue.map cLock).length : Int) > 60) = false → few l = bif noLong l.held then noLong l.queue else false := fun h1 h2 => by unfold few; rw [h1, h2]; rfl
  refine And.intro (fun h1 => ?_) (fun h1 => ?_) <;> (conv => whnf)
  · refine And.intro (fun h2 => ?_) (fun h2 => ?_) <;> (conv => whnf)
    · refine ⟨[], rfl, ?_, True.intro⟩
      show DV.bool false = .bool (few l)
      unfold few; rw [h1, h2]; rfl
    · have hf := fin h1 h2
      have b1 : l.held.length ≤ 60 := by simp at h1; omega
      have b2 : l.queue.length ≤ 60 := by simp at h2; omega
      refine loopV_of (fun k : Nat => ⟨[.any, .ptr 0 0 0, .any, .d (.int .i64 k), .any, .any, .any, .any, .any, .any, .any, .any, .any, .any, .any, .any, .any, .any, .any, .any, .any, .any, .any, .any, .any, .any, .any, .any, .any, .any, .any, .any, .any, .any, .any, .any, .any, .any, .any, .any, .any, .any, .any, .any, .any, .any, .any, .any, .any, .any, .any, .any, .any, .any, .any, .any, .any, .any, .any, .any, .any, .any, .any, .any, .any, .any, .any, .any, .any], [.box [.d (encLocks l.held), .d (encLocks l.queue)]]⟩)
        (fun k => k ≤ l.held.length ∧ noLong l.held = noLong (l.held.drop k)) (fun k => l.held.length - k) 0 [0] ⟨Nat.zero_le _, rfl⟩ ?_ ?_
      · refine And.intro rfl (And.intro ?_ ?_)
        all_goals repeat' (first | exact True.intro | exact rfl | refine And.intro ?_ ?_)
      · rintro k ⟨hk, hidx⟩
        conv => whnf
        refine And.intro (fun h_ => ?_) (fun h_ => ?_)
        · conv => whnf
          have hk' : k < l.held.length := by simpa using h_
          obtain ⟨x, hx⟩ : ∃ x, l.held[k]? = some x := ⟨_, List.getElem?_eq_getElem hk'⟩
          have hst := noLong_step hx
          have out : lLong x = true → DV.bool false = .bool (few l) := fun h => by rw [hf, hidx, hst, h]; rfl
          have next : lLong x = false → noLong l.held = noLong (l.held.drop (k + 1)) := fun h => by rw [hidx, hst, h]; rfl
          refine ⟨by omega, cLock x, by simp [hx], rfl, ?_⟩
          conv => whnf
          refine And.intro (fun h3 => ?_) (fun h3 => ?_) <;> (conv => whnf)
          · refine ⟨by omega, cLock x, by simp [hx], rfl, ?_⟩
            conv => whnf
            refine And.intro (fun h4 => ?_) (fun h4 => ?_) <;> (conv => whnf)
            · exact ⟨[], rfl, out (long_b h3 h4), True.intro⟩
            · intro z hz
              conv => whnf
              rw [wrap_small (by omega) (by omega)] at hz
              subst hz
              refine ⟨k + 1, [0], ⟨by omega, next (long_c h3 h4)⟩, by omega, And.intro rfl (And.intro ?_ ?_)⟩
              all_goals repeat' (first | exact True.intro | exact rfl | refine And.intro ?_ ?_)
          · exact ⟨[], rfl, out (long_a h3), True.intro⟩
        · conv => whnf
          have hk' : k = l.held.length := by simp at h_; omega
          have hh : noLong l.held = true := by rw [hidx, hk', List.drop_length]; rfl
          have hf2 : few l = noLong l.queue := by rw [hf, hh]; rfl
          refine loopV_of (fun k : Nat => ⟨[.any, .ptr 0 0 0, .any, .any, .d (.int .i64 k), .any, .any, .any, .any, .any, .any, .any, .any, .any, .any, .any, .any, .any, .any, .any, .any, .any, .any, .any, .any, .any, .any, .any, .any, .any, .any, .any, .any, .any, .any, .any, .any, .any, .any, .any, .any, .any, .any, .any, .any, .any, .any, .any, .any, .any, .any, .any, .any, .any, .any, .any, .any, .any, .any, .any, .any, .any, .any, .any, .any, .any, .any, .any, .any], [.box [.d (encLocks l.held), .d (encLocks l.queue)]]⟩)
            (fun k => k ≤ l.queue.length ∧ few l = noLong (l.queue.drop k)) (fun k => l.queue.length - k) 0 [0] ⟨Nat.zero_le _, hf2⟩ ?_ ?_
          · refine And.intro rfl (And.intro ?_ ?_)
            all_goals repeat' (first | exact True.intro | exact rfl | refine And.intro ?_ ?_)
          · rintro k ⟨hk, hidx⟩
            conv => whnf
            refine And.intro (fun h_ => ?_) (fun h_ => ?_)
            · conv => whnf
              have hk' : k < l.queue.length := by simpa using h_
              obtain ⟨x, hx⟩ : ∃ x, l.queue[k]? = some x := ⟨_, List.getElem?_eq_getElem hk'⟩
              have hst := noLong_step hx
              have out : lLong x = true → DV.bool false = .bool (few l) := fun h => by rw [hidx, hst, h]; rfl
              have next : lLong x = false → few l = noLong (l.queue.drop (k + 1)) := fun h => by rw [hidx, hst, h]; rfl
              refine ⟨by omega, cLock x, by simp [hx], rfl, ?_⟩
              conv => whnf
              refine And.intro (fun h3 => ?_) (fun h3 => ?_) <;> (conv => whnf)
              · refine ⟨by omega, cLock x, by simp [hx], rfl, ?_⟩
                conv => whnf
                refine And.intro (fun h4 => ?_) (fun h4 => ?_) <;> (conv => whnf)
                · exact ⟨[], rfl, out (long_b h3 h4), True.intro⟩
                · intro z hz
                  conv => whnf
                  rw [wrap_small (by omega) (by omega)] at hz
                  subst hz
                  refine ⟨k + 1, [0], ⟨by omega, next (long_c h3 h4)⟩, by omega, And.intro rfl (And.intro ?_ ?_)⟩
                  all_goals repeat' (first | exact True.intro | exact rfl | refine And.intro ?_ ?_)
              · exact ⟨[], rfl, out (long_a h3), True.intro⟩
            · conv => whnf
              have hk' : k = l.queue.length := by simp at h_; omega
              refine ⟨[], rfl, ?_, True.intro⟩
              show DV.bool true = .bool (few l)
              rw [hidx, hk', List.drop_length]; rfl
  · refine ⟨[], rfl, ?_, True.intro⟩
    show DV.bool false = .bool (few l)
    unfold few; rw [h1]; rfl
end Go.Proofs.Ve

/- What covers, serves, is the same. -/
set_option maxRecDepth 100000
set_option linter.all false
namespace Go.Proofs.Ve
open Go
def sCovers (a b : Span) : Bool :=
  if sEmpty b then true
  else if a.t != b.t || decide (cmpB a.lo b.lo > 0) then false
  else a.op || (!b.op && decide (cmpB b.hi a.hi ≤ 0))
theorem c106 (a b : Span) (H : List (List Blk)) : CallEq X H 106 [pSpan a, pSpan b] (.d (.bool (sCovers a b))) [] := by
  unfold sCovers
  refine callEq_of_body X_ok rfl Try.func106 rfl ?_
  conv => whnf
  repeat' (first
    | (refine And.intro (fun h_ => ?_) (fun h_ => ?_) <;> (conv => whnf))
    | (refine ⟨_, _, c88 b _, (by first | exact True.intro | exact And.intro rfl flat_nil), ?_⟩; conv => whnf)
    | (refine ⟨_, _, c96 _ _ _, (by first | exact True.intro | exact And.intro rfl flat_nil), ?_⟩; conv => whnf)
    | (intro z_ hz_; conv => whnf)
    | (refine ⟨[], rfl, ?_, True.intro⟩; (conv => whnf); (first | done | (simp_all only [refP, Bool.not_true, Bool.not_false, Bool.true_and, Bool.false_and, Bool.and_true, Bool.and_false, Bool.true_or, Bool.false_or, Bool.or_true, Bool.or_false, Bool.not_not, Bool.not_eq_true', Bool.not_eq_false', if_true, if_false, Bool.false_eq_true, Bool.true_eq_false, List.length_map]; done)))
    | fail)
def lServes (h x : Lock) : Bool :=
  if (h.owner != x.owner || h.span.t != x.span.t) || (x.whole && !h.whole) then false
  else if h.whole then mCovers h.mode x.mode
  else sCovers h.span x.span && (h.mode == 5 || h.mode == x.mode)
theorem c66 (h x : Lock) (H : List (List Blk)) : CallEq X H 66 [pLock h, pLock x] (.d (.bool (lServes h x))) [] := by
  unfold lServes
  refine callEq_of_body X_ok rfl Try.func66 rfl ?_
  conv => whnf
  repeat' (first
    | (refine And.intro (fun h_ => ?_) (fun h_ => ?_) <;> (conv => whnf))
    | (refine ⟨_, _, c87 _ _ _, (by first | exact True.intro | exact And.intro rfl flat_nil), ?_⟩; conv => whnf)
    | (refine ⟨_, _, c106 h.span x.span _, (by first | exact True.intro | exact And.intro rfl flat_nil), ?_⟩; conv => whnf)
    | (intro z_ hz_; conv => whnf)
    | (refine ⟨[], rfl, ?_, True.intro⟩; (conv => whnf); (first | done | (simp_all only [refP, Bool.not_true, Bool.not_false, Bool.true_and, Bool.false_and, Bool.and_true, Bool.and_false, Bool.true_or, Bool.false_or, Bool.or_true, Bool.or_false, Bool.not_not, Bool.not_eq_true', Bool.not_eq_false', if_true, if_false, Bool.false_eq_true, Bool.true_eq_false, List.length_map]; done)))
    | fail)
def sOne (a b : Span) : Bool := a.t == b.t && eqB a.lo b.lo && eqB a.hi b.hi && a.op == b.op
theorem c108 (a b : Span) (H : List (List Blk)) : CallEq X H 108 [pSpan a, pSpan b] (.d (.bool (sOne a b))) [] := by
  unfold sOne eqB toBA
  refine callEq_of_body X_ok rfl Try.func108 rfl ?_
  conv => whnf
  repeat' (first
    | (refine And.intro (fun h_ => ?_) (fun h_ => ?_) <;> (conv => whnf))
    | (refine ⟨_, rfl, ?_⟩; conv => whnf)
    | (intro z_ hz_; conv => whnf)
    | (refine ⟨[], rfl, ?_, True.intro⟩; (conv => whnf); (first | done | (simp_all only [refP, Bool.not_true, Bool.not_false, Bool.true_and, Bool.false_and, Bool.and_true, Bool.and_false, Bool.true_or, Bool.false_or, Bool.or_true, Bool.or_false, Bool.not_not, Bool.not_eq_true', Bool.not_eq_false', if_true, if_false, Bool.false_eq_true, Bool.true_eq_false, List.length_map]; done)))
    | fail)
def mAbove (m : Int) : Int := if m == 1 then 1 else if m == 3 then 1 else if m == 2 then 2 else if m == 4 then 2 else if m == 5 then 2 else 0
theorem c113 (m : Int) (H : List (List Blk)) : CallEq X H 113 [.d (.int .i64 m)] (.d (.int .i64 (mAbove m))) [] := by
  unfold mAbove
  refine callEq_of_body X_ok rfl Try.func113 rfl ?_
  conv => whnf
  repeat' (first
    | (refine And.intro (fun h_ => ?_) (fun h_ => ?_) <;> (conv => whnf))
    | (intro z_ hz_; conv => whnf)
    | (refine ⟨[], rfl, ?_, True.intro⟩; (conv => whnf); (first | done | (simp_all only [refP, Bool.not_true, Bool.not_false, Bool.true_and, Bool.false_and, Bool.and_true, Bool.and_false, Bool.true_or, Bool.false_or, Bool.or_true, Bool.or_false, Bool.not_not, Bool.not_eq_true', Bool.not_eq_false', if_true, if_false, Bool.false_eq_true, Bool.true_eq_false, List.length_map]; done)))
    | fail)
def wIs (o : Int) : Bool := decide (o ≥ 0) && decide (o < 4)
theorem c109 (o : Int) (H : List (List Blk)) : CallEq X H 109 [.d (.int .i64 o)] (.d (.bool (wIs o))) [] := by
  unfold wIs
  refine callEq_of_body X_ok rfl Try.func109 rfl ?_
  conv => whnf
  repeat' (first
    | (refine And.intro (fun h_ => ?_) (fun h_ => ?_) <;> (conv => whnf))
    | (intro z_ hz_; conv => whnf)
    | (refine ⟨[], rfl, ?_, True.intro⟩; (conv => whnf); (first | done | (simp_all only [refP, Bool.not_true, Bool.not_false, Bool.true_and, Bool.false_and, Bool.and_true, Bool.and_false, Bool.true_or, Bool.false_or, Bool.or_true, Bool.or_false, Bool.not_not, Bool.not_eq_true', Bool.not_eq_false', if_true, if_false, Bool.false_eq_true, Bool.true_eq_false, List.length_map]; done)))
    | fail)
end Go.Proofs.Ve

/- Contracts of the library's, off the shelf, as the value machine's: what is new, what was turned in place. -/
set_option linter.all false
namespace Go.Proofs.Ve
open Go Go.RowKit

/-- A new row, nothing else turned. -/
theorem new_row {m : M} {H : List (List Blk)} (hinv : Inv m [] H) (hfree : ∀ i, m.ρ 0 i = none) {w' : World} {v : Value} {e sz : Nat} {xs : List (List DV)} {flat : List Value} (h0 : 0 < sz) (hxs : ∀ x ∈ xs, x.length = sz)
    (hown : w'.ownsRow m.w.heap.size e sz v xs.length flat) (hB : Below m.w.heap.size m.w w') (hc : ∀ (ok : Nat → Prop), ∀ (i : Nat) x (j : Nat) y u, xs[i]? = some x → x[j]? = some y → flat[i * sz + j]? = some u → RD w' ok y u) :
    ∃ m', m'.w = w' ∧ Grow m m' ∧ (∀ l i, m'.ρ (l + 1) i = m.ρ (l + 1) i) ∧ (∀ j u k, m'.ρ 0 j = some u → blkOf u = some k → m.w.heap.size ≤ k) ∧ Inv m' [.row e sz xs] H ∧ m'.ρ 0 0 = some v := by
  have hown0 : w'.ownsRow 0 e sz v xs.length flat := by
    obtain ⟨a, b⟩ := hown
    refine ⟨a, ?_⟩
    rcases b with b | ⟨g, cap, cur, b1, _, b2⟩
    · exact .inl b
    · exact .inr ⟨g, cap, cur, b1, Nat.zero_le _, b2⟩
  have hblk : ∀ k, blkOf v = some k → m.w.heap.size ≤ k ∧ k < w'.heap.size := fun k hk => by
    rcases hown.2 with ⟨b, _⟩ | ⟨g, cap, cur, b1, b2, b3, _⟩
    · rw [b] at hk; cases hk
    · rw [b1] at hk; cases hk; exact ⟨b2, (Array.getElem?_eq_some_iff.1 b3).1⟩
  let m' : M := ⟨w', fun l i => match l with | 0 => if i = 0 then some v else none | l + 1 => m.ρ (l + 1) i, fun k => m.U k ∨ blkOf v = some k⟩
  have h00 : m'.ρ 0 0 = some v := rfl
  have hup : ∀ l i, m'.ρ (l + 1) i = m.ρ (l + 1) i := fun _ _ => rfl
  have hz : ∀ i u, m'.ρ 0 i = some u → i = 0 ∧ u = v := fun i u h => by
    change (if i = 0 then some v else none) = some u at h
    split at h
    · cases h; exact ⟨by assumption, rfl⟩
    · cases h
  have hG : Grow m m' := by
    refine ⟨hB.os, hB.tape, hB.output, hB.size, fun k hk => hB.block k hk, fun l i u hu => ?_, fun k hk => ⟨fun h => ?_, .inl⟩⟩
    · cases l with
      | zero => rw [hfree i] at hu; cases hu
      | succ l => exact hu
    · rcases h with h | h
      · exact h
      · have := (hblk k h).1; omega
  have get : ∀ l i b, getB [.row e sz xs] H l i = some b → (l = 0 ∧ i = 0 ∧ b = .row e sz xs) ∨ (∃ l', l = l' + 1 ∧ getB [] H l i = some b) := by
    intro l i b hb
    cases l with
    | zero =>
      cases i with
      | zero => simp [getB] at hb; exact .inl ⟨rfl, rfl, hb.symm⟩
      | succ i => simp [getB] at hb
    | succ l => exact .inr ⟨l, rfl, hb⟩
  refine ⟨m', rfl, hG, hup, fun j u k hu hk => ?_, ⟨fun l i b hb => ?_, fun l i b l' i' b' u u' k h1 h2 h3 h4 h5 h6 h7 h8 => ?_, fun l i b u k h1 h2 h3 h4 => ?_, fun k hk => ?_⟩, h00⟩
  · obtain ⟨rfl, rfl⟩ := hz j u hu; exact (hblk k hk).1
  · rcases get l i b hb with ⟨rfl, rfl, rfl⟩ | ⟨l', rfl, hb'⟩
    · intro u hu
      rw [h00] at hu; cases hu
      exact ⟨h0, hxs, flat, hown0, hc _⟩
    · exact (hinv.blk _ i b hb').keep hG.keep (hup l' i) (fun u k hl hu hk => hG.heap k (hinv.lt k (hinv.own _ i b u k hb' hl hu hk)))
  · rcases get l i b h1 with ⟨rfl, rfl, rfl⟩ | ⟨a, rfl, hb⟩ <;> rcases get l' i' b' h3 with ⟨rfl, rfl, rfl⟩ | ⟨a', rfl, hb'⟩
    · exact ⟨rfl, rfl⟩
    · exfalso
      rw [h00] at h5; cases h5
      have := hinv.lt k (hinv.own _ i' b' u' k hb' h4 h6 h8)
      have := (hblk k h7).1; omega
    · exfalso
      rw [h00] at h6; cases h6
      have := hinv.lt k (hinv.own _ i b u k hb h2 h5 h7)
      have := (hblk k h8).1; omega
    · exact hinv.inj _ i b _ i' b' u u' k hb h2 hb' h4 h5 h6 h7 h8
  · rcases get l i b h1 with ⟨rfl, rfl, rfl⟩ | ⟨a, rfl, hb⟩
    · rw [h00] at h3; cases h3; exact .inr h4
    · exact .inl (hinv.own _ i b u k hb h2 h3 h4)
  · rcases hk with hk | hk
    · exact Nat.lt_of_lt_of_le (hinv.lt k hk) hB.size
    · exact (hblk k hk).2

/-- A row that was given, turned in place. -/
theorem turn_row {m : M} {H : List (List Blk)} {e sz : Nat} {xs xs' : List (List DV)} {v : Value} (hinv : Inv m [.row e sz xs] H) (hρ : m.ρ 0 0 = some v) (hfree : ∀ i, 1 ≤ i → m.ρ 0 i = none) {w' : World} {flat : List Value} (hxs : ∀ x ∈ xs', x.length = sz)
    (hos : w'.os = m.w.os) (htape : w'.tape = m.w.tape) (hout : w'.output = m.w.output) (hsize : m.w.heap.size ≤ w'.heap.size) (hheap : ∀ k, k < m.w.heap.size → blkOf v ≠ some k → w'.heap[k]? = m.w.heap[k]?)
    (hown : w'.ownsRow 0 e sz v xs'.length flat) (hc : ∀ (ok : Nat → Prop), ∀ (i : Nat) x (j : Nat) y u, xs'[i]? = some x → x[j]? = some y → flat[i * sz + j]? = some u → RD w' ok y u) :
    Since ⟨m, [.row e sz xs]⟩ ⟨w', m.ρ, m.U⟩ ∧ Inv ⟨w', m.ρ, m.U⟩ [.row e sz xs'] H := by
  obtain ⟨h0, _⟩ := hinv.blk 0 0 _ rfl v hρ
  have hgU : ∀ k, blkOf v = some k → m.U k := fun k hk => hinv.own 0 0 _ v k rfl rfl hρ hk
  have mine : ∀ k, blkOf v = some k → Mine m [.row e sz xs] k := fun k hk => ⟨0, _, v, rfl, rfl, hρ, hk⟩
  have hK : Keep m ⟨w', m.ρ, m.U⟩ := ⟨fun _ _ _ h => h, hsize, fun k hk => ⟨hk.2, hheap k hk.1 (fun h => hk.2 (hgU k h))⟩⟩
  have get : ∀ l i b, getB [.row e sz xs'] H l i = some b → (l = 0 ∧ i = 0 ∧ b = .row e sz xs') ∨ (∃ l', l = l' + 1 ∧ getB [.row e sz xs] H l i = some b) := by
    intro l i b hb
    cases l with
    | zero =>
      cases i with
      | zero => simp [getB] at hb; exact .inl ⟨rfl, rfl, hb.symm⟩
      | succ i => simp [getB] at hb
    | succ l => exact .inr ⟨l, rfl, hb⟩
  have old : ∀ l i b, getB [.row e sz xs'] H l i = some b → b.live = true → ∃ b', getB [.row e sz xs] H l i = some b' ∧ b'.live = true := by
    intro l i b hb hl
    rcases get l i b hb with ⟨rfl, rfl, rfl⟩ | ⟨l', rfl, hb'⟩
    · exact ⟨_, rfl, rfl⟩
    · exact ⟨b, hb', hl⟩
  refine ⟨⟨hos, htape, hout, hsize, fun k hk hn => hheap k hk (fun h => hn (mine k h)), fun _ _ => rfl, fun _ _ => Iff.rfl, fun j u k hu hk => .inr ?_⟩, ⟨fun l i b hb => ?_, fun l i b l' i' b' u u' k h1 h2 h3 h4 h5 h6 h7 h8 => ?_, fun l i b u k h1 h2 h3 h4 => ?_, fun k hk => Nat.lt_of_lt_of_le (hinv.lt k hk) hsize⟩⟩
  · cases j with
    | zero =>
      change m.ρ 0 0 = some u at hu
      rw [hρ] at hu; cases hu; exact mine k hk
    | succ j =>
      change m.ρ 0 (j + 1) = some u at hu
      rw [hfree _ (by omega)] at hu; cases hu
  · rcases get l i b hb with ⟨rfl, rfl, rfl⟩ | ⟨l', rfl, hb'⟩
    · intro u hu
      change m.ρ 0 0 = some u at hu
      rw [hρ] at hu; cases hu
      exact ⟨h0, hxs, flat, hown, hc _⟩
    · refine (hinv.blk _ i b hb').keep hK rfl (fun u k hl hu hk => hheap k (hinv.lt k (hinv.own _ i b u k hb' hl hu hk)) (fun h => ?_))
      have := (hinv.inj (l' + 1) i b 0 0 _ u v k hb' hl rfl rfl hu hρ hk h).1
      cases this
  · obtain ⟨c, c1, c2⟩ := old l i b h1 h2
    obtain ⟨c', d1, d2⟩ := old l' i' b' h3 h4
    exact hinv.inj l i c l' i' c' u u' k c1 c2 d1 d2 h5 h6 h7 h8
  · obtain ⟨c, c1, c2⟩ := old l i b h1 h2
    exact hinv.own l i c u k c1 c2 h3 h4

/-! ### rows of whole numbers -/
def rowI (l : List Int) : List (List DV) := l.map fun x => [.int .i64 x]
theorem rowI_len (l : List Int) : (rowI l).length = l.length := by simp [rowI]
theorem rowI_one (l : List Int) : ∀ x ∈ rowI l, x.length = 1 := fun x hx => by simp only [rowI, List.mem_map] at hx; obtain ⟨_, _, rfl⟩ := hx; rfl
theorem rowI_rd (l : List Int) (w : World) (ok : Nat → Prop) (i : Nat) (x : List DV) (j : Nat) (y : DV) (u : Value) (hx : (rowI l)[i]? = some x) (hy : x[j]? = some y) (hu : (l.map (Value.int .i64))[i * 1 + j]? = some u) : RD w ok y u := by
  unfold rowI at hx
  rw [List.getElem?_map] at hx
  obtain ⟨n, hn, rfl⟩ := Option.map_eq_some_iff.1 hx
  cases j with
  | succ j => simp at hy
  | zero =>
    simp at hy
    subst hy
    rw [Nat.mul_one, Nat.add_zero, List.getElem?_map, hn] at hu
    cases hu; exact .int _ _
theorem rowI_cells {w : World} {v : Value} {e : Nat} {flat : List Value} {l : List Int} (ho : w.ownsRow 0 e 1 v (rowI l).length flat) (hrd : ∀ (i : Nat) x (j : Nat) y u, (rowI l)[i]? = some x → x[j]? = some y → flat[i * 1 + j]? = some u → ∃ ok : Nat → Prop, RD w ok y u) : flat = l.map (Value.int .i64) := by
  apply List.ext_getElem?
  intro i
  have hfl : flat.length = l.length := by rw [ho.1, rowI_len]; omega
  rcases Nat.lt_or_ge i l.length with h | h
  · have h1 : flat[i]? = some flat[i] := List.getElem?_eq_getElem (by omega)
    obtain ⟨ok, h2⟩ := hrd i [.int .i64 l[i]] 0 _ flat[i] (by simp [rowI, h]) rfl (by rw [Nat.mul_one, Nat.add_zero]; exact h1)
    rw [h1, List.getElem?_map, List.getElem?_eq_getElem h]
    generalize flat[i] = u at h2
    cases h2; rfl
  · rw [List.getElem?_eq_none (by omega), List.getElem?_eq_none (by simpa using h)]
end Go.Proofs.Ve

/- Clone, Sort, Compact: contracts off the shelf. -/
set_option maxRecDepth 100000
set_option linter.all false
namespace Go.Proofs.Ve
open Go Go.RowKit
def rowB (b : List UInt8) : List (List DV) := b.map fun x => [.int .u8 x.toNat]
theorem rd_bytes {w : World} {ok : Nat → Prop} {b : List UInt8} {v : Value} (h : RD w ok (encB b) v) : ∃ A n c, v = .slice A n c ∧ n = b.length ∧ (0 < n → ∃ ad, A = some ad ∧ ∀ i, i < n → w.cell? (ad.add i) = some (.int .u8 ((b.map fun x => (x.toNat : Int)).getD i 0))) := by
  unfold encB at h
  cases h with
  | sl sz _ A n c ad u hn hc hm hA hs hcell hr =>
    refine ⟨A, n, c, rfl, by simpa using hn.symm, fun hp => ⟨ad, hA hp, fun i hi => ?_⟩⟩
    have hb : i < b.length := by simp at hn; omega
    have h1 : (b.map fun x => [DV.int .u8 (x.toNat : Int)])[i]? = some [.int .u8 (b[i].toNat : Int)] := by simp [hb]
    have hsz : sz = 1 := by
      have := hs _ (List.mem_of_getElem? h1)
      simpa using this.symm
    subst hsz
    have h2 := (hcell i _ 0 _ h1 rfl).2
    have h3 := hr i _ 0 _ h1 rfl
    rw [Nat.mul_one, Nat.add_zero] at h2 h3
    rw [h2]
    generalize u i = q at h3
    cases h3
    simp [hb]
theorem c103r (b : List UInt8) (hb : b.length ≤ 140737488355328) (H : List (List Blk)) : CallEq X H 103 [.d (encB b)] (.row 0 0 b.length) [⟨5, 1, rowB b⟩] := by
  unfold CallEq
  intro m vs hinv hfree hlen hargs
  obtain ⟨v, rfl⟩ : ∃ v, vs = #[v] := by
    match vs, hlen with
    | ⟨[v]⟩, _ => exact ⟨v, rfl⟩
  have hv := hargs 0 _ v rfl rfl
  cases hv with
  | d _ _ hv =>
    obtain ⟨A, n, c, rfl, hn, hcell⟩ := rd_bytes hv
    have fin : ∀ (w' : World) (v' : Value), w'.ownsRow m.w.heap.size 5 1 v' n ((b.map fun x => (x.toNat : Int)).map (Value.int .u8)) → Below m.w.heap.size m.w w' →
        ∃ v m', Ending.returned v' = .returned v ∧ m'.w = w' ∧ Grow m m' ∧ (∀ l i, m'.ρ (l + 1) i = m.ρ (l + 1) i) ∧ (∀ j u k, m'.ρ 0 j = some u → blkOf u = some k → m.w.heap.size ≤ k) ∧ Inv m' ([⟨5, 1, rowB b⟩].map RowB.blk) H ∧ RP m' (.row 0 0 b.length) v := by
      intro w' v' hown hB
      have hl : (rowB b).length = n := by simp [rowB, hn]
      obtain ⟨m', h1, h2, h3, h4, h5, h6⟩ := new_row (xs := rowB b) hinv hfree (by decide) (fun x hx => by simp only [rowB, List.mem_map] at hx; obtain ⟨_, _, rfl⟩ := hx; rfl) (hl ▸ hown) hB (fun ok i x j y u hx hy hu => by
        unfold rowB at hx
        rw [List.getElem?_map] at hx
        obtain ⟨q, hq, rfl⟩ := Option.map_eq_some_iff.1 hx
        cases j with
        | succ j => simp at hy
        | zero =>
          simp at hy; subst hy
          rw [Nat.mul_one, Nat.add_zero, List.getElem?_map, List.getElem?_map, hq] at hu
          cases hu; exact .int _ _)
      refine ⟨v', m', rfl, h1, h2, h3, h4, h5, ?_⟩
      rcases hown.2 with ⟨a, a0⟩ | ⟨g, cap, cur, a, _, _, a1, _⟩
      · subst a
        rw [← hn, a0]
        exact .row 0 0 0 0 0 none h6 (Nat.le_refl _) (Nat.le_refl _)
      · subst a
        exact hn ▸ .row 0 0 n n cap (some ⟨g, 0, none⟩) h6 (Nat.le_refl _) a1
    cases A with
    | none =>
      have h0 : n = 0 := by
        rcases Nat.eq_zero_or_pos n with h | h
        · exact h
        · obtain ⟨ad, h1, _⟩ := hcell h; cases h1
      refine (Try.bytes_Clone_nil n c m.w).mono ?_
      rintro e w' ⟨rfl, rfl⟩
      refine fin _ _ ⟨?_, .inl ⟨rfl, h0⟩⟩ (Below.refl _ _)
      simp [hn]
    | some a =>
      refine (Try.bytes_Clone_at a n c (b.map fun x => (x.toNat : Int)) m.w (by simp [hn]) (by omega) (fun i hi => ?_)).mono ?_
      · obtain ⟨ad, h1, h2⟩ := hcell (by omega)
        cases h1; exact h2 i hi
      · rintro e w' ⟨v', rfl, hown, _, hB⟩
        exact fin w' v' hown hB
theorem c103 (b : List UInt8) (hb : b.length ≤ 140737488355328) (H : List (List Blk)) : CallEq X H 103 [.d (encB b)] (.d (encB b)) [] :=
  (c103r b hb H).freeze 1 (by
    change PV.d (.sl ((rowB b).take b.length)) = _
    rw [List.take_of_length_le (by simp [rowB])]; rfl)

/-! ### in place -/
def sortI (l : List Int) : List Int := l.mergeSort fun x y => decide (x ≤ y)
theorem sortI_len (l : List Int) : (sortI l).length = l.length := List.length_mergeSort l
theorem c64 (l : List Int) (hl : l.length < 1000000) (H : List (List Blk)) : CallEqG X H 64 [⟨3, 1, rowI l⟩] [.row 0 0 l.length] [some ⟨3, 1, rowI (sortI l)⟩] (.tuple []) [] := by
  unfold CallEqG
  refine ⟨rfl, fun m vs hinv hfree hlen hargs => ?_⟩
  obtain ⟨v, rfl⟩ : ∃ v, vs = #[v] := by
    match vs, hlen with
    | ⟨[v]⟩, _ => exact ⟨v, rfl⟩
  have hv := hargs 0 _ v rfl rfl
  cases hv with
  | row _ _ _ Nn c A hρ hn hc =>
    have hb := hinv.blk 0 0 _ rfl _ hρ
    obtain ⟨h0, _, flat, hown, hrd⟩ := hb
    change m.w.ownsRow 0 3 1 (.slice A Nn c) (rowI l).length flat at hown
    change ∀ (i : Nat) x (j : Nat) y u, (rowI l)[i]? = some x → x[j]? = some y → flat[i * 1 + j]? = some u → RD m.w m.ok y u at hrd
    have hflat := rowI_cells hown (fun i x j y u hx hy hu => ⟨_, hrd i x j y u hx hy hu⟩)
    subst hflat
    have fin : ∀ w', w'.os = m.w.os → w'.tape = m.w.tape → w'.output = m.w.output → m.w.heap.size ≤ w'.heap.size → (∀ k, k < m.w.heap.size → blkOf (.slice A Nn c) ≠ some k → w'.heap[k]? = m.w.heap[k]?) → w'.ownsRow 0 3 1 (.slice A Nn c) (rowI (sortI l)).length ((sortI l).map (Value.int .i64)) →
        ∃ v m', Ending.returned (.tuple #[]) = .returned v ∧ m'.w = w' ∧ Since ⟨m, ([⟨3, 1, rowI l⟩] : List RowB).map RowB.blk⟩ m' ∧ (∀ i, i < 1 → m'.ρ 0 (0 + i) = m.ρ 0 i) ∧ Inv m' (([] : List RowB).map RowB.blk ++ [some ⟨3, 1, rowI (sortI l)⟩].map gblk) H ∧ RP m' (.tuple []) v := by
      intro w' h1 h2 h3 h4 h5 h6
      obtain ⟨a, b⟩ := turn_row (xs' := rowI (sortI l)) hinv hρ hfree (rowI_one _) h1 h2 h3 h4 h5 h6 (fun ok i x j y u hx hy hu => rowI_rd _ _ _ _ _ _ _ _ hx hy hu)
      exact ⟨_, _, rfl, rfl, a, fun i _ => by rw [Nat.zero_add], b, .tuple [] #[] rfl (fun j p v h => by simp at h)⟩
    rcases hown.2 with ⟨h1, h2⟩ | ⟨g, cap, cur, h1, _, h3, h4, h5, h6, h7⟩
    · cases h1
      have hl0 : l.length = 0 := by rw [← rowI_len l]; exact h2
      obtain rfl : l = [] := List.eq_nil_of_length_eq_zero hl0
      refine (Try.slices_Sort_int_none none 0 m.w).mono ?_
      rintro e w' ⟨rfl, rfl⟩
      exact fin _ rfl rfl rfl (Nat.le_refl _) (fun _ _ _ => rfl) (by rw [show sortI [] = [] from List.eq_nil_of_length_eq_zero (sortI_len [])]; exact hown)
    · simp only [Value.slice.injEq] at h1
      obtain ⟨rfl, rfl, rfl⟩ := h1
      have hg : g < m.w.heap.size := (Array.getElem?_eq_some_iff.1 h3).1
      rw [rowI_len] at h4 h7
      refine (Try.slices_Sort_int g 0 c l m.w (holds_of_blockI h3 (by simpa using h7)) hg (by omega)).mono ?_
      rintro e w' ⟨rfl, n, os, rfl⟩
      have hgr := grownBy_sortedI (w := m.w) (g := g) (n := n) (os := os) (sortI l).toArray
      refine fin _ hgr.os hgr.tape hgr.output hgr.size (fun k hk hne => hgr.block k hk (fun e => hne (by cases e; rfl))) ?_
      have e1 : (rowI (sortI l)).length = l.length := (rowI_len _).trans (sortI_len l)
      rw [e1, rowI_len l]
      exact ownsRow_sortedI (w := m.w) (base := 0) (cap := c) (n := n) (e := 3) (os := os) (ss := l) (ts := sortI l) (sortI_len l) (Nat.zero_le _) h3 h4 h5 h6
def compI (l : List Int) : List Int := Lib.compact l
def compZ (l : List Int) : List Int := compI l ++ List.replicate (l.length - (compI l).length) 0
theorem compZ_len (l : List Int) : (compZ l).length = l.length := by
  have := Lib.compact_length_le l
  simp [compZ, compI]; omega
theorem c85 (l : List Int) (hl : l.length < 1000000) (H : List (List Blk)) : CallEqG X H 85 [⟨3, 1, rowI l⟩] [.row 0 0 l.length] [none] (.row 0 0 (compI l).length) [⟨3, 1, rowI (compZ l)⟩] := by
  unfold CallEqG
  refine ⟨rfl, fun m vs hinv hfree hlen hargs => ?_⟩
  obtain ⟨v, rfl⟩ : ∃ v, vs = #[v] := by
    match vs, hlen with
    | ⟨[v]⟩, _ => exact ⟨v, rfl⟩
  have hv := hargs 0 _ v rfl rfl
  cases hv with
  | row _ _ _ Nn c A hρ hn hc =>
    have hb := hinv.blk 0 0 _ rfl _ hρ
    obtain ⟨h0, _, flat, hown, hrd⟩ := hb
    change m.w.ownsRow 0 3 1 (.slice A Nn c) (rowI l).length flat at hown
    change ∀ (i : Nat) x (j : Nat) y u, (rowI l)[i]? = some x → x[j]? = some y → flat[i * 1 + j]? = some u → RD m.w m.ok y u at hrd
    have hflat := rowI_cells hown (fun i x j y u hx hy hu => ⟨_, hrd i x j y u hx hy hu⟩)
    subst hflat
    have hcl : (compI l).length ≤ l.length := Lib.compact_length_le l
    have fin : ∀ w', w'.os = m.w.os → w'.tape = m.w.tape → w'.output = m.w.output → m.w.heap.size ≤ w'.heap.size → (∀ k, k < m.w.heap.size → blkOf (.slice A Nn c) ≠ some k → w'.heap[k]? = m.w.heap[k]?) → w'.ownsRow 0 3 1 (.slice A Nn c) (rowI (compZ l)).length ((compZ l).map (Value.int .i64)) → Nn = l.length →
        ∃ v m', Ending.returned (.slice A (compI l).length c) = .returned v ∧ m'.w = w' ∧ Since ⟨m, ([⟨3, 1, rowI l⟩] : List RowB).map RowB.blk⟩ m' ∧ (∀ i, i < 1 → m'.ρ 0 (1 + i) = m.ρ 0 i) ∧ Inv m' (([⟨3, 1, rowI (compZ l)⟩] : List RowB).map RowB.blk ++ [(none : Option RowB)].map gblk) H ∧ RP m' (.row 0 0 (compI l).length) v := by
      intro w' h1 h2 h3 h4 h5 h6 h7
      obtain ⟨a, b⟩ := turn_row (xs' := rowI (compZ l)) hinv hρ hfree (rowI_one _) h1 h2 h3 h4 h5 h6 (fun ok i x j y u hx hy hu => rowI_rd _ _ _ _ _ _ _ _ hx hy hu)
      let m' : M := ⟨w', fun a i => match a with | 0 => if i ≤ 1 then m.ρ 0 0 else none | a + 1 => m.ρ (a + 1) i, m.U⟩
      have e0 : m'.ρ 0 0 = m.ρ 0 0 := rfl
      have e1 : m'.ρ 0 1 = m.ρ 0 0 := rfl
      have ez : ∀ i u, m'.ρ 0 i = some u → m.ρ 0 0 = some u := fun i u h => by
        change (if i ≤ 1 then m.ρ 0 0 else none) = some u at h
        split at h
        · exact h
        · cases h
      have hK : Keep ⟨w', m.ρ, m.U⟩ m' := by
        refine ⟨fun a i u hu => ?_, Nat.le_refl _, fun k hk => ⟨hk.2, rfl⟩⟩
        cases a with
        | succ a => exact hu
        | zero =>
          cases i with
          | zero => exact hu
          | succ i => change m.ρ 0 (i + 1) = some u at hu; rw [hfree _ (by simp)] at hu; cases hu
      have get : ∀ a i b, getB [.row 3 1 (rowI (compZ l)), .dead] H a i = some b → b.live = true → getB [.row 3 1 (rowI (compZ l))] H a i = some b ∧ m'.ρ a i = m.ρ a i := by
        intro a i b hb hl
        cases a with
        | succ a => exact ⟨hb, rfl⟩
        | zero =>
          match i, hb with
          | 0, hb => exact ⟨hb, rfl⟩
          | 1, hb => simp [getB] at hb; subst hb; cases hl
          | i + 2, hb => simp [getB] at hb
      refine ⟨_, m', rfl, rfl, ⟨a.os, a.tape, a.output, a.size, a.heap, a.up, a.U, fun j u k hu hk => ?_⟩, fun i hi => ?_, ⟨fun a i c hc => ?_, fun a i c a' i' c' u u' k q1 q2 q3 q4 q5 q6 q7 q8 => ?_, fun a i c u k q1 q2 q3 q4 => ?_, b.lt⟩, ?_⟩
      · exact a.fresh 0 u k (ez j u hu) hk
      · obtain rfl : i = 0 := by omega
        exact e1
      · cases hlv : c.live with
        | false => cases c <;> simp [Blk.live] at hlv; trivial
        | true =>
          obtain ⟨g1, g2⟩ := get a i c hc hlv
          exact (b.blk a i c g1).keep hK g2 (fun _ _ _ _ _ => rfl)
      · obtain ⟨g1, g2⟩ := get a i c q1 q2
        obtain ⟨g3, g4⟩ := get a' i' c' q3 q4
        exact b.inj a i c a' i' c' u u' k g1 q2 g3 q4 (g2 ▸ q5) (g4 ▸ q6) q7 q8
      · obtain ⟨g1, g2⟩ := get a i c q1 q2
        exact b.own a i c u k g1 q2 (g2 ▸ q3) q4
      · exact .row 0 0 _ Nn c A (e0.trans hρ) (by omega) hc
    rcases hown.2 with ⟨h1, h2⟩ | ⟨g, cap, cur, h1, _, h3, h4, h5, h6, h7⟩
    · cases h1
      have hl0 : l.length = 0 := by rw [← rowI_len l]; exact h2
      obtain rfl : l = [] := List.eq_nil_of_length_eq_zero hl0
      refine (Try.slices_Compact_int_empty none 0 m.w).mono ?_
      rintro e w' ⟨rfl, rfl⟩
      exact fin _ rfl rfl rfl (Nat.le_refl _) (fun _ _ _ => rfl) hown rfl
    · simp only [Value.slice.injEq] at h1
      obtain ⟨rfl, rfl, rfl⟩ := h1
      have hg : g < m.w.heap.size := (Array.getElem?_eq_some_iff.1 h3).1
      rw [rowI_len] at h4 h7
      refine (Try.slices_Compact_int g 0 c l m.w (holds_of_blockI h3 (by simpa using h7)) (by omega) h4).mono ?_
      rintro e w' ⟨rfl, n, rfl⟩
      have hgr := grownBy_sortedI (w := m.w) (g := g) (n := n) (os := #[]) (compZ l).toArray
      have hw : Go.Sort.grow (Go.Sort.putRow (Value.int .i64) (Go.Sort.ahead m.w n) g 0 (compZ l).toArray) #[] = Go.Sort.putRow (Value.int .i64) (Go.Sort.ahead m.w n) g 0 (compZ l).toArray := Go.Sort.grow_empty _
      rw [hw] at hgr
      refine fin _ hgr.os hgr.tape hgr.output hgr.size (fun k hk hne => hgr.block k hk (fun e => hne (by cases e; rfl))) ?_ (rowI_len l)
      have e1 : (rowI (compZ l)).length = l.length := (rowI_len _).trans (compZ_len l)
      rw [e1, rowI_len l]
      have := ownsRow_sortedI (w := m.w) (base := 0) (cap := c) (n := n) (e := 3) (os := #[]) (ss := l) (ts := compZ l) (compZ_len l) (Nat.zero_le _) h3 h4 h5 h6
      rw [hw] at this
      exact this
end Go.Proofs.Ve

/- Concat of locks; who is ahead. -/
set_option maxRecDepth 100000
set_option linter.all false
namespace Go.Proofs.Ve
open Go
theorem take_snoc' {α : Type} {l : List α} {k : Nat} {x : α} (h : l[k]? = some x) : l.take (k + 1) = l.take k ++ [x] := by
  rw [List.take_add_one, h]; rfl
theorem flat_snoc {α : Type} {ls : List (List α)} {k : Nat} {l : List α} (h : ls[k]? = some l) : (ls.take (k + 1)).flatten = (ls.take k).flatten ++ l := by
  rw [take_snoc' h]; simp
theorem flat_le {α : Type} (ls : List (List α)) (k : Nat) : (ls.take k).flatten.length ≤ ls.flatten.length := by
  have h : ls.flatten = (ls.take k).flatten ++ (ls.drop k).flatten := by rw [← List.flatten_append, List.take_append_drop]
  rw [h, List.length_append]; omega
def encLL (ls : List (List Lock)) : DV := .sl (ls.map fun l => [encLocks l])
theorem c84 (ls : List (List Lock)) (hn : ls.length < 1000000) (ht : ls.flatten.length < 1000000) (H : List (List Blk)) : CallEq X H 84 [.d (encLL ls)] (.row 0 0 ls.flatten.length) [⟨29, 7, ls.flatten.map cLock⟩] := by
  refine callEq_of_body X_ok rfl Try.func84 rfl ?_
  conv => whnf
  refine loopV_of (fun k : Nat => ⟨[.d (encLL ls), .any, .nils, .d (.int .i64 ((ls.take k).flatten.length : Nat)), .any, .any, .any, .any, .any, .d (encLL ls), .d (.int .i64 (ls.map fun l => [encLocks l]).length), .d (.int .i64 k), .any, .any, .any, .any, .any, .any, .any, .any, .any, .any, .any, .any, .any, .any, .any, .any, .any, .any, .any, .any, .any, .any, .any, .any], []⟩)
    (fun k => k ≤ ls.length) (fun k => ls.length - k) 0 [] (Nat.zero_le _) ?_ ?_
  · refine And.intro rfl (And.intro ?_ ?_)
    all_goals repeat' (first | exact True.intro | exact rfl | refine And.intro ?_ ?_)
  · intro k hk
    conv => whnf
    refine And.intro (fun h_ => ?_) (fun h_ => ?_)
    · conv => whnf
      have hk' : k < ls.length := by simpa using h_
      obtain ⟨l, hl⟩ : ∃ l, ls[k]? = some l := ⟨_, List.getElem?_eq_getElem hk'⟩
      have hf := flat_snoc hl
      have hf' : (ls.take (k + 1)).flatten.length = (ls.take k).flatten.length + l.length := by rw [hf]; simp
      have hle := flat_le ls (k + 1)
      refine ⟨by omega, [encLocks l], by simp [hl], rfl, ?_⟩
      conv => whnf
      intro z hz
      conv => whnf
      rw [show ((l.map cLock).length : Int) = (l.length : Int) by simp, wrap_small (by omega) (by omega)] at hz
      subst hz
      refine And.intro (fun h1 => ?_) (fun h1 => ?_)
      · simp at h1; omega
      conv => whnf
      intro z hz
      conv => whnf
      rw [wrap_small (by omega) (by omega)] at hz
      subst hz
      refine ⟨k + 1, [], by omega, by omega, And.intro rfl (And.intro ?_ ?_)⟩
      all_goals repeat' (first | exact True.intro | exact rfl | refine And.intro ?_ ?_)
      show DV.int .i64 _ = DV.int .i64 _
      rw [hf']; rfl
    · conv => whnf
      have hk' : k = ls.length := by simp at h_; omega
      subst hk'
      rw [List.take_length]
      refine ⟨by omega, ?_⟩
      conv => whnf
      refine ⟨by (first | omega | (dsimp only; omega) | (simp; done) | (simp; omega)), by (first | omega | (dsimp only; omega) | (simp; done) | (simp; omega)), fun h0 => ?_, fun h0 => ?_⟩
      all_goals
        conv => whnf
        refine loopV_of (fun k : Nat => ⟨[.d (encLL ls), .any, .nils, .any, .any, .any, .row 0 0 (ls.take k).flatten.length, .any, .any, .any, .any, .any, .any, .any, .any, .any, .any, .any, .any, .any, .any, .any, .any, .any, .any, .d (encLL ls), .d (.int .i64 (ls.map fun l => [encLocks l]).length), .d (.int .i64 k), .any, .any, .any, .any, .any, .any, .any, .any], [.row 29 7 ((ls.take k).flatten.map cLock)]⟩)
          (fun k => k ≤ ls.length) (fun k => ls.length - k) 0 [0] (Nat.zero_le _) ?_ ?_
        · refine And.intro rfl (And.intro ?_ ?_)
          all_goals repeat' (first | exact True.intro | exact rfl | refine And.intro ?_ ?_)
        · intro k hk
          conv => whnf
          refine And.intro (fun h_ => ?_) (fun h_ => ?_)
          · conv => whnf
            have hk' : k < ls.length := by simpa using h_
            obtain ⟨l, hl⟩ : ∃ l, ls[k]? = some l := ⟨_, List.getElem?_eq_getElem hk'⟩
            have hf := flat_snoc hl
            have hf' : (ls.take (k + 1)).flatten.length = (ls.take k).flatten.length + l.length := by rw [hf]; simp
            have hle := flat_le ls (k + 1)
            refine ⟨by omega, [encLocks l], by simp [hl], rfl, ?_⟩
            conv => whnf
            refine ⟨fun y hy => ?_, ?_⟩
            · simp only [List.mem_map] at hy; obtain ⟨_, _, rfl⟩ := hy; rfl
            conv => whnf
            refine ⟨(List.length_map _).symm, by rw [List.length_map]; (first | omega | (dsimp only; omega) | (simp; done) | (simp; omega)), ?_⟩
            conv => whnf
            intro z hz
            conv => whnf
            rw [wrap_small (by omega) (by omega)] at hz
            subst hz
            refine ⟨k + 1, [1], by omega, by omega, And.intro rfl (And.intro ?_ ?_)⟩
            all_goals (repeat' (first | exact True.intro | exact rfl | refine And.intro ?_ ?_))
            · show PV.row 0 1 _ = PV.row 0 1 _
              rw [hf', List.length_map]
            · rw [hf, List.map_append]
          · conv => whnf
            have hk' : k = ls.length := by simp at h_; omega
            subst hk'
            rw [List.take_length]
            exact ⟨[0], rfl, And.intro rfl rfl, And.intro (And.intro rfl (And.intro rfl rfl)) True.intro⟩
theorem c84f (a b : List Lock) (ha : a.length < 100000) (hb : b.length < 100000) (H : List (List Blk)) : CallEq X H 84 [.d (.sl [[encLocks a], [encLocks b]])] (.d (encLocks (a ++ b))) [] := by
  have h := (c84 [a, b] (by simp) (by simp; omega) H).freeze 1 (r' := .d (encLocks (a ++ b))) (by
    change PV.d (.sl (List.take _ (List.map cLock _))) = _
    rw [List.take_of_length_le (by simp)]
    simp [encLocks])
  exact h
/-! ### who is ahead -/
def aheadOf (x : Lock) (l : List Lock) : List Int := (l.filter fun y => lClash y x).map (·.owner)
theorem ahead_snoc {x y : Lock} {l : List Lock} {k : Nat} (h : l[k]? = some y) : aheadOf x (l.take (k + 1)) = aheadOf x (l.take k) ++ if lClash y x then [y.owner] else [] := by
  unfold aheadOf
  rw [take_snoc' h, List.filter_append, List.map_append]
  cases hc : lClash y x <;> simp [hc]
theorem ahead_len (x : Lock) (l : List Lock) : (aheadOf x l).length ≤ l.length := by
  unfold aheadOf; rw [List.length_map]; exact List.length_filter_le _ _
def lAhead (l : Locks) (x : Lock) (many : Nat) : List Int := compI (sortI (aheadOf x (l.held ++ l.queue.take many)))
theorem c45r (l : Locks) (x : Lock) (many : Nat) (hm : many ≤ l.queue.length) (h1 : l.held.length < 100000) (h2 : l.queue.length < 100000) (H : List (List Blk)) : CallEq X H 45 [pLocks l, pLock x, .d (.int .i64 many)] (.row 0 0 (lAhead l x many).length) [⟨3, 1, rowI (compZ (sortI (aheadOf x (l.held ++ l.queue.take many))))⟩] := by
  refine callEq_of_body X_ok rfl Try.func45 rfl ?_
  conv => whnf
  refine ⟨by omega, by simp; omega, ?_⟩
  conv => whnf
  have hc := fun H => c84f l.held (l.queue.take many) h1 (by simp; omega) H
  rw [show encLocks (l.queue.take many) = .sl (List.take (many : Int).toNat (l.queue.map cLock)) by rw [encLocks, List.map_take]; rfl] at hc
  refine ⟨_, _, hc _, True.intro, ?_⟩
  conv => whnf
  obtain ⟨L, hL⟩ : ∃ L, L = l.held ++ l.queue.take many := ⟨_, rfl⟩
  have hLl : L.length < 200000 := by rw [hL]; simp; omega
  rw [← hL]
  refine loopV_of (fun k : Nat => ⟨[.any, .any, .any, .ptr 0 0 0, .ptr 0 1 0, .any, .row 0 2 (aheadOf x (L.take k)).length, .any, .any, .any, .any, .any, .any, .any, .any, .any, .any, .any, .d (encLocks L), .d (.int .i64 (L.map cLock).length), .d (.int .i64 k), .any, .any, .any, .any, .any, .any, .any, .any, .any, .any, .any, .any, .any, .any, .any, .any], [.box [.d (encLocks l.held), .d (encLocks l.queue)], bLock x, .row 3 1 (rowI (aheadOf x (L.take k)))]⟩)
    (fun k => k ≤ L.length) (fun k => L.length - k) 0 [0, 1, 2] (Nat.zero_le _) ?_ ?_
  · refine And.intro rfl (And.intro ?_ ?_)
    all_goals (repeat' (first | exact True.intro | exact rfl | refine And.intro ?_ ?_))
  · intro k hk
    conv => whnf
    refine And.intro (fun h_ => ?_) (fun h_ => ?_)
    · conv => whnf
      have hk' : k < L.length := by simpa using h_
      obtain ⟨y, hy⟩ : ∃ y, L[k]? = some y := ⟨_, List.getElem?_eq_getElem hk'⟩
      have hs := ahead_snoc (x := x) hy
      have hle := ahead_len x (L.take k)
      have hle' : (L.take k).length ≤ k := List.length_take_le _ _
      refine ⟨by omega, cLock y, by simp [hy], rfl, ?_⟩
      conv => whnf
      refine ⟨_, _, c21 y x _, True.intro, ?_⟩
      conv => whnf
      refine And.intro (fun h1 => ?_) (fun h1 => ?_)
      · conv => whnf
        rw [h1, if_pos rfl] at hs
        have hs' : (aheadOf x (L.take (k + 1))).length = (aheadOf x (L.take k)).length + 1 := by rw [hs]; simp
        refine ⟨fun y hy => by simp at hy; subst hy; rfl, ?_⟩
        conv => whnf
        refine ⟨(rowI_len _).symm, by (first | omega | (dsimp only; omega) | (simp; done) | (simp; omega)), ?_⟩
        conv => whnf
        intro z hz
        conv => whnf
        rw [wrap_small (by omega) (by omega)] at hz
        subst hz
        refine ⟨k + 1, [0, 1, 4], by omega, by omega, And.intro rfl (And.intro ?_ ?_)⟩
        all_goals (repeat' (first | exact True.intro | exact rfl | refine And.intro ?_ ?_))
        · show PV.row 0 4 _ = PV.row 0 4 _
          rw [hs']; rfl
        · rw [hs]; simp [rowI]
      · conv => whnf
        rw [h1] at hs
        simp only [Bool.false_eq_true, if_false, List.append_nil] at hs
        intro z hz
        conv => whnf
        rw [wrap_small (by omega) (by omega)] at hz
        subst hz
        refine ⟨k + 1, [0, 1, 2], by omega, by omega, And.intro rfl (And.intro ?_ ?_)⟩
        all_goals (repeat' (first | exact True.intro | exact rfl | refine And.intro ?_ ?_))
        · show PV.row 0 2 _ = PV.row 0 2 _
          rw [hs]
        · rw [hs]
    · conv => whnf
      have hk' : k = L.length := by simp at h_; omega
      subst hk'
      rw [List.take_length]
      have hle := ahead_len x L
      refine ⟨_, _, _, c64 (aheadOf x L) (by omega) _, ?_⟩
      conv => whnf
      have c2 := fun H => c85 (sortI (aheadOf x L)) (by rw [sortI_len]; omega) H
      rw [sortI_len] at c2
      refine ⟨_, _, _, c2 _, ?_⟩
      conv => whnf
      have hr : lAhead l x many = compI (sortI (aheadOf x L)) := by rw [hL]; rfl
      rw [hr]
      exact ⟨[3], rfl, And.intro rfl rfl, And.intro (And.intro rfl (And.intro rfl rfl)) True.intro⟩
theorem encI_comp (s : List Int) : DV.sl ((rowI (compZ s)).take (compI s).length) = encI (compI s) := by
  unfold rowI compZ encI
  rw [List.map_append, List.take_append_of_le_length (by simp), List.take_of_length_le (by simp)]
theorem c45 (l : Locks) (x : Lock) (many : Nat) (hm : many ≤ l.queue.length) (h1 : l.held.length < 100000) (h2 : l.queue.length < 100000) (H : List (List Blk)) : CallEq X H 45 [pLocks l, pLock x, .d (.int .i64 many)] (.d (encI (lAhead l x many))) [] :=
  (c45r l x many hm h1 h2 H).freeze 1 (by
    change PV.d (.sl (List.take (lAhead l x many).length (rowI _))) = _
    unfold lAhead
    rw [encI_comp])
end Go.Proofs.Ve

/- Whether locks may be; who waits, and for whom. -/
set_option maxRecDepth 100000
set_option linter.all false
namespace Go.Proofs.Ve
open Go
def lQok (l : Locks) (y : Lock) (k : Nat) : Bool := place l.queue y.owner == (k : Int) && decide (((lAhead l y k).length : Int) > 0)
def lQ (l : Locks) : List Lock → Nat → Bool
  | [], _ => true
  | y :: ys, k => bif lQok l y k then lQ l ys (k + 1) else false
theorem lQ_step {l : Locks} {k : Nat} {y : Lock} (h : l.queue[k]? = some y) : lQ l (l.queue.drop k) k = bif lQok l y k then lQ l (l.queue.drop (k + 1)) (k + 1) else false := by
  have hk := (List.getElem?_eq_some_iff.1 h).1
  rw [List.drop_eq_getElem_cons hk, (List.getElem?_eq_some_iff.1 h).2, lQ]
def lCheck (l : Locks) : Bool :=
  !(decide ((l.held.length : Int) + l.queue.length > 40) || (l.held.any (fun x => !lMay x) || l.queue.any fun x => !lMay x)) && (lQ l l.queue 0 && (singleFrom [] l.held && !l.queue.any fun x => l.held.any (lWeak x)))
theorem c19 (l : Locks) (h1 : l.held.length < 100000) (h2 : l.queue.length < 100000) (H : List (List Blk)) : CallEq X H 19 [pLocks l] (.d (.bool (lCheck l))) [] := by
  refine callEq_of_body X_ok rfl Try.func19 rfl ?_
  conv => whnf
  intro z hz
  conv => whnf
  rw [wrap_small (by (first | omega | (dsimp only; omega) | (simp; done) | (simp; omega))) (by (first | omega | (dsimp only; omega) | (simp; done) | (simp; omega))), List.length_map, List.length_map] at hz
  subst hz
  have key : (decide ((l.held.length : Int) + l.queue.length > 40)) = false → l.held.any (fun x => !lMay x) = false → l.queue.any (fun x => !lMay x) = false → lCheck l = (lQ l l.queue 0 && (singleFrom [] l.held && !l.queue.any fun x => l.held.any (lWeak x))) := fun a b c => by
    unfold lCheck; rw [a, b, c]; rfl
  refine And.intro (fun e1 => ?_) (fun e1 => ?_) <;> (conv => whnf)
  · refine ⟨_, _, c51a l.held (by omega) _, True.intro, ?_⟩
    conv => whnf
    refine And.intro (fun e2 => ?_) (fun e2 => ?_) <;> (conv => whnf)
    · refine ⟨_, _, c51a l.queue (by omega) _, True.intro, ?_⟩
      conv => whnf
      refine And.intro (fun e3 => ?_) (fun e3 => ?_) <;> (conv => whnf)
      · refine ⟨[], rfl, ?_, True.intro⟩
        show DV.bool _ = .bool _
        unfold lCheck; rw [e1, e3]; simp
      · have hk := key (by simpa using e1) (by simpa using e2) (by simpa using e3)
        refine loopV_of (fun k : Nat => ⟨[.any, .ptr 0 0 0, .any, .any, .ptr 0 1 0, .func (.func 45) [.agg [.d (encLocks l.held), .d (encLocks l.queue)]] [], .any, .any, .any, .any, .any, .any, .any, .any, .any, .any, .any, .any, .any, .any, .any, .any, .any, .any, .any, .any, .any, .any, .any, .any, .any, .any, .any, .d (encLocks l.queue), .d (.int .i64 (l.queue.map cLock).length), .d (.int .i64 k), .any, .any, .any, .any, .any, .any, .any, .any, .any, .any, .any, .any, .any, .any, .any, .any, .any, .any, .any, .any, .any, .any, .any, .any, .any, .any, .any, .any, .any], [.box [.d (encLocks l.held), .d (encLocks l.queue)], .box [.d (encLocks l.held), .d (encLocks l.queue)]]⟩)
          (fun k => k ≤ l.queue.length ∧ lQ l l.queue 0 = lQ l (l.queue.drop k) k) (fun k => l.queue.length - k) 0 [0, 1] ⟨Nat.zero_le _, rfl⟩ ?_ ?_
        · refine And.intro rfl (And.intro ?_ ?_)
          all_goals (repeat' (first | exact True.intro | exact rfl | refine And.intro ?_ ?_))
        · rintro k ⟨hkl, hidx⟩
          conv => whnf
          refine And.intro (fun h_ => ?_) (fun h_ => ?_)
          · conv => whnf
            have hk' : k < l.queue.length := by simpa using h_
            obtain ⟨y, hy⟩ : ∃ y, l.queue[k]? = some y := ⟨_, List.getElem?_eq_getElem hk'⟩
            have hst := lQ_step hy
            have out : lQok l y k = false → DV.bool false = .bool (lCheck l) := fun h => by rw [hk, hidx, hst, h]; rfl
            have next : lQok l y k = true → lQ l l.queue 0 = lQ l (l.queue.drop (k + 1)) (k + 1) := fun h => by rw [hidx, hst, h]; rfl
            refine ⟨by omega, cLock y, by simp [hy], rfl, ?_⟩
            conv => whnf
            refine ⟨_, _, c44 l y.owner (by omega) _, True.intro, ?_⟩
            conv => whnf
            refine And.intro (fun q1 => ?_) (fun q1 => ?_) <;> (conv => whnf)
            · refine ⟨_, _, c45 l y k (by omega) h1 h2 _, True.intro, ?_⟩
              conv => whnf
              have e0 : (((lAhead l y k).map fun x => [DV.int .i64 x]).length : Int) = ((lAhead l y k).length : Int) := by simp
              refine And.intro (fun q2 => ?_) (fun q2 => ?_) <;> (conv => whnf)
              · intro z hz
                conv => whnf
                rw [wrap_small (by omega) (by omega)] at hz
                subst hz
                refine ⟨k + 1, [0, 1], ⟨by omega, next ?_⟩, by omega, And.intro rfl (And.intro ?_ ?_)⟩
                · unfold lQok; rw [q1, ← e0]; simpa using q2
                all_goals (repeat' (first | exact True.intro | exact rfl | refine And.intro ?_ ?_))
              · refine ⟨[], rfl, out ?_, True.intro⟩
                unfold lQok; rw [q1, ← e0]; simpa using q2
            · refine ⟨[], rfl, out ?_, True.intro⟩
              unfold lQok; rw [q1]; rfl
          · conv => whnf
            have hk' : k = l.queue.length := by simp at h_; omega
            have hq : lCheck l = (singleFrom [] l.held && !l.queue.any fun x => l.held.any (lWeak x)) := by rw [hk, hidx, hk', List.drop_length]; rfl
            refine ⟨_, _, c52 l (by omega) _, True.intro, ?_⟩
            conv => whnf
            refine And.intro (fun q1 => ?_) (fun q1 => ?_) <;> (conv => whnf)
            · refine ⟨_, _, c51c l l.queue (by omega) (by omega) _, True.intro, ?_⟩
              conv => whnf
              refine ⟨[], rfl, ?_, True.intro⟩
              show DV.bool _ = .bool _
              rw [hq, q1]; rfl
            · refine ⟨[], rfl, ?_, True.intro⟩
              show DV.bool false = .bool _
              rw [hq, q1]; rfl
    · refine ⟨[], rfl, ?_, True.intro⟩
      show DV.bool _ = .bool _
      unfold lCheck; rw [e1, e2]; simp
  · refine ⟨[], rfl, ?_, True.intro⟩
    show DV.bool _ = .bool _
    unfold lCheck; rw [e1]; simp
def lWaits (l : Locks) (o : Int) : Bool := lCheck l && decide (place l.queue o ≥ 0)
theorem c23 (l : Locks) (o : Int) (h1 : l.held.length < 100000) (h2 : l.queue.length < 100000) (H : List (List Blk)) : CallEq X H 23 [pLocks l, .d (.int .i64 o)] (.d (.bool (lWaits l o))) [] := by
  unfold lWaits
  refine callEq_of_body X_ok rfl Try.func23 rfl ?_
  conv => whnf
  repeat' (first
    | (refine And.intro (fun h_ => ?_) (fun h_ => ?_) <;> (conv => whnf))
    | (refine ⟨_, _, c19 l h1 h2 _, (by first | exact True.intro | exact And.intro rfl flat_nil), ?_⟩; conv => whnf)
    | (refine ⟨_, _, c44 l o (by omega) _, (by first | exact True.intro | exact And.intro rfl flat_nil), ?_⟩; conv => whnf)
    | (intro z_ hz_; conv => whnf)
    | (refine ⟨[], rfl, ?_, True.intro⟩; (conv => whnf); (first | done | (simp_all only [refP, Bool.not_true, Bool.not_false, Bool.true_and, Bool.false_and, Bool.and_true, Bool.and_false, Bool.true_or, Bool.false_or, Bool.or_true, Bool.or_false, Bool.not_not, Bool.not_eq_true', Bool.not_eq_false', if_true, if_false, Bool.false_eq_true, Bool.true_eq_false, List.length_map]; done)))
    | fail)
def lBlockers (l : Locks) (o : Int) : List Int := if lWaits l o then (match l.queue[(place l.queue o).toNat]? with | some y => lAhead l y (place l.queue o).toNat | none => []) else []
theorem place_at {l : List Lock} {o : Int} (h : place l o ≥ 0) : ∃ y, l[(place l o).toNat]? = some y ∧ y.owner = o := by
  unfold place at *
  have key : ∀ (l : List Lock) (k : Int), 0 ≤ k → idxOf (fun x : Lock => x.owner == o) l k ≥ 0 → k ≤ idxOf (fun x : Lock => x.owner == o) l k ∧ ∃ y, l[(idxOf (fun x : Lock => x.owner == o) l k - k).toNat]? = some y ∧ y.owner = o := by
    intro l
    induction l with
    | nil => intro k hk h; simp [idxOf] at h
    | cons x l ih =>
      intro k hk h
      cases hx : (x.owner == o) with
      | true => rw [idxOf, hx]; exact ⟨by simp, x, by simp, by simpa using hx⟩
      | false =>
        rw [idxOf, hx] at h ⊢
        obtain ⟨h1, y, h2, h3⟩ := ih (k + 1) (by omega) h
        refine ⟨by simp; omega, y, ?_, h3⟩
        simp only [cond_false]
        rw [show (idxOf (fun x : Lock => x.owner == o) l (k + 1) - k).toNat = (idxOf (fun x : Lock => x.owner == o) l (k + 1) - (k + 1)).toNat + 1 by omega]
        simpa using h2
  obtain ⟨_, y, h1, h2⟩ := key l 0 (by omega) h
  exact ⟨y, by simpa using h1, h2⟩
theorem c17 (l : Locks) (o : Int) (h1 : l.held.length < 100000) (h2 : l.queue.length < 100000) (H : List (List Blk)) : CallEq X H 17 [pLocks l, .d (.int .i64 o)] (.d (encI (lBlockers l o))) [] := by
  refine callEq_of_body X_ok rfl Try.func17 rfl ?_
  conv => whnf
  refine ⟨_, _, c23 l o h1 h2 _, True.intro, ?_⟩
  conv => whnf
  refine And.intro (fun q1 => ?_) (fun q1 => ?_) <;> (conv => whnf)
  · refine ⟨[], rfl, ?_, True.intro⟩
    have q1 : lWaits l o = false := by simpa using q1
    show DV.sl [] = encI (lBlockers l o)
    unfold lBlockers; rw [q1]; rfl
  · have q1 : lWaits l o = true := by simpa using q1
    have hp : place l.queue o ≥ 0 := by unfold lWaits at q1; simp at q1; exact q1.2
    obtain ⟨y, hy, ho⟩ := place_at hp
    refine ⟨_, _, c44 l o (by omega) _, True.intro, ?_⟩
    conv => whnf
    refine ⟨hp, cLock y, by simp [hy], rfl, ?_⟩
    conv => whnf
    have hlt := (List.getElem?_eq_some_iff.1 hy).1
    have hc := fun H => c45 l y (place l.queue o).toNat (by omega) h1 h2 H
    rw [show (((place l.queue o).toNat : Nat) : Int) = place l.queue o by omega] at hc
    refine ⟨_, _, hc _, True.intro, ?_⟩
    conv => whnf
    refine ⟨[], rfl, ?_, True.intro⟩
    show encI _ = encI (lBlockers l o)
    unfold lBlockers; rw [q1, if_pos rfl, hy]
end Go.Proofs.Ve

/- The document's answer: by whom one is held up; whether locks may be. -/
set_option maxRecDepth 100000
set_option linter.all false
namespace Go.Proofs.Ve
open Go
def ownOk (y : Lock) : Prop := y.owner = 0 ∨ y.owner = 1 ∨ y.owner = 2 ∨ y.owner = 3
theorem may_own {y : Lock} (h : rLMay y = true) : ownOk y := by
  unfold ownOk
  unfold rLMay at h
  cases h1 : (decide (y.owner < 0) || decide (y.owner > 3)) with
  | true => rw [h1] at h; simp at h
  | false => simp at h1; omega
def anyB (x : Lock) (ys : List Lock) (o : Int) : Bool := ys.any fun y => rClash y x && y.owner == o
theorem anyB_snoc {x y : Lock} {l : List Lock} {k : Nat} (h : l[k]? = some y) (pre : List Lock) (o : Int) : anyB x (pre ++ l.take (k + 1)) o = (anyB x (pre ++ l.take k) o || (rClash y x && y.owner == o)) := by
  unfold anyB
  rw [take_snoc' h, ← List.append_assoc, List.any_append]
  simp
def pB (x : Lock) (ys : List Lock) : PV := .agg [.d (.bool (anyB x ys 0)), .d (.bool (anyB x ys 1)), .d (.bool (anyB x ys 2)), .d (.bool (anyB x ys 3))]
theorem idx4 {K : Nat → Prop} {n : Int} (h : n = 0 ∨ n = 1 ∨ n = 2 ∨ n = 3) (h0 : n = 0 → K 0) (h1 : n = 1 → K 1) (h2 : n = 2 → K 2) (h3 : n = 3 → K 3) : 0 ≤ n ∧ n < 4 ∧ ∃ k : Nat, n = k ∧ K k := by
  rcases h with h | h | h | h
  · exact ⟨by omega, by omega, 0, h, h0 h⟩
  · exact ⟨by omega, by omega, 1, h, h1 h⟩
  · exact ⟨by omega, by omega, 2, h, h2 h⟩
  · exact ⟨by omega, by omega, 3, h, h3 h⟩
theorem c48 (l : Locks) (x : Lock) (at_ : Nat) (hx : l.queue[at_]? = some x) (h1 : l.held.length < 100000) (h2 : l.queue.length < 100000) (o1 : ∀ y ∈ l.held, ownOk y) (o2 : ∀ y ∈ l.queue, ownOk y) (H : List (List Blk)) :
    CallEq X H 48 [pLocks l, .d (.int .i64 at_)] (pB x (l.held ++ l.queue.take at_)) [] := by
  have hat := (List.getElem?_eq_some_iff.1 hx).1
  refine callEq_of_body X_ok rfl Try.func48 rfl ?_
  conv => whnf
  refine loopV_of (fun k : Nat => ⟨[.any, .d (.int .i64 at_), .ptr 0 0 0, .any, .ptr 0 1 0, .ptr 0 2 0, .d (.int .i64 k), .any, .any, .any, .any, .any, .any, .any, .any, .any, .any, .any, .any, .any, .any, .any, .any, .any, .any, .any, .any, .any, .any, .any, .any, .any, .any, .any, .any, .any, .any, .any, .any, .any, .any, .any, .any, .any, .any, .any, .any, .any, .any, .any, .any, .any, .any, .any, .any, .any, .any, .any, .any, .any, .any, .any], [.box [.d (encLocks l.held), .d (encLocks l.queue)], .box [.kb false, .kb false, .kb false, .kb false], .box [.d (.bool (anyB x ([] ++ l.held.take k) 0)), .d (.bool (anyB x ([] ++ l.held.take k) 1)), .d (.bool (anyB x ([] ++ l.held.take k) 2)), .d (.bool (anyB x ([] ++ l.held.take k) 3))]]⟩)
    (fun k => k ≤ l.held.length) (fun k => l.held.length - k) 0 [0, 1, 2] (Nat.zero_le _) ?_ ?_
  · refine And.intro rfl (And.intro ?_ ?_)
    all_goals (repeat' (first | exact True.intro | exact rfl | refine And.intro ?_ ?_))
    skip
  · intro k hkl
    conv => whnf
    refine And.intro (fun h_ => ?_) (fun h_ => ?_)
    · conv => whnf
      have hk' : k < l.held.length := by simpa using h_
      obtain ⟨y, hy⟩ : ∃ y, l.held[k]? = some y := ⟨_, List.getElem?_eq_getElem (by omega)⟩
      have hs := fun o => anyB_snoc (x := x) hy [] o
      refine ⟨by omega, cLock y, by simp [hy], rfl, ?_⟩
      conv => whnf
      refine ⟨by omega, cLock x, by simp [hx], rfl, ?_⟩
      conv => whnf
      refine ⟨_, _, c22 y x _, True.intro, ?_⟩
      conv => whnf
      refine And.intro (fun q1 => ?_) (fun q1 => ?_) <;> (conv => whnf)
      · simp only [q1, Bool.true_and] at hs
        refine ⟨by omega, cLock y, by simp [hy], rfl, ?_⟩
        conv => whnf
        refine idx4 (o1 y (List.mem_of_getElem? hy)) (fun ho => ?_) (fun ho => ?_) (fun ho => ?_) (fun ho => ?_)
        all_goals
          simp only [ho] at hs
          conv => whnf
          intro z hz
          conv => whnf
          rw [wrap_small (by omega) (by omega)] at hz
          subst hz
          refine ⟨k + 1, [0, 1, 2], by omega, by omega, And.intro rfl (And.intro ?_ ?_)⟩
          all_goals (repeat' (first | exact True.intro | exact rfl | refine And.intro ?_ ?_))
          all_goals (show DV.bool _ = DV.bool _; rw [hs]; simp)
      · simp only [q1, Bool.false_and, Bool.or_false] at hs
        intro z hz
        conv => whnf
        rw [wrap_small (by omega) (by omega)] at hz
        subst hz
        refine ⟨k + 1, [0, 1, 2], by omega, by omega, And.intro rfl (And.intro ?_ ?_)⟩
        all_goals (repeat' (first | exact True.intro | exact rfl | refine And.intro ?_ ?_))
        all_goals (show DV.bool _ = DV.bool _; rw [hs])
    · conv => whnf
      have hk' : k = l.held.length := by simp at h_; omega
      subst hk'
      rw [List.take_length, List.nil_append]
      refine loopV_of (fun k : Nat => ⟨[.any, .d (.int .i64 at_), .ptr 0 0 0, .any, .ptr 0 1 0, .ptr 0 2 0, .any, .any, .d (.int .i64 k), .any, .any, .any, .any, .any, .any, .any, .any, .any, .any, .any, .any, .any, .any, .any, .any, .any, .any, .any, .any, .any, .any, .any, .any, .any, .any, .any, .any, .any, .any, .any, .any, .any, .any, .any, .any, .any, .any, .any, .any, .any, .any, .any, .any, .any, .any, .any, .any, .any, .any, .any, .any, .any], [.box [.d (encLocks l.held), .d (encLocks l.queue)], .box [.kb false, .kb false, .kb false, .kb false], .box [.d (.bool (anyB x (l.held ++ l.queue.take k) 0)), .d (.bool (anyB x (l.held ++ l.queue.take k) 1)), .d (.bool (anyB x (l.held ++ l.queue.take k) 2)), .d (.bool (anyB x (l.held ++ l.queue.take k) 3))]]⟩)
        (fun k => k ≤ at_) (fun k => at_ - k) 0 [0, 1, 2] (Nat.zero_le _) ?_ ?_
      · refine And.intro rfl (And.intro ?_ ?_)
        all_goals (repeat' (first | exact True.intro | exact rfl | refine And.intro ?_ ?_))
        all_goals (show DV.bool _ = DV.bool _; simp; done)
      · intro k hkl
        conv => whnf
        refine And.intro (fun h_ => ?_) (fun h_ => ?_)
        · conv => whnf
          have hk' : k < at_ := by simpa using h_
          obtain ⟨y, hy⟩ : ∃ y, l.queue[k]? = some y := ⟨_, List.getElem?_eq_getElem (by omega)⟩
          have hs := fun o => anyB_snoc (x := x) hy l.held o
          refine ⟨by omega, cLock y, by simp [hy], rfl, ?_⟩
          conv => whnf
          refine ⟨by omega, cLock x, by simp [hx], rfl, ?_⟩
          conv => whnf
          refine ⟨_, _, c22 y x _, True.intro, ?_⟩
          conv => whnf
          refine And.intro (fun q1 => ?_) (fun q1 => ?_) <;> (conv => whnf)
          · simp only [q1, Bool.true_and] at hs
            refine ⟨by omega, cLock y, by simp [hy], rfl, ?_⟩
            conv => whnf
            refine idx4 (o2 y (List.mem_of_getElem? hy)) (fun ho => ?_) (fun ho => ?_) (fun ho => ?_) (fun ho => ?_)
            all_goals
              simp only [ho] at hs
              conv => whnf
              intro z hz
              conv => whnf
              rw [wrap_small (by omega) (by omega)] at hz
              subst hz
              refine ⟨k + 1, [0, 1, 2], by omega, by omega, And.intro rfl (And.intro ?_ ?_)⟩
              all_goals (repeat' (first | exact True.intro | exact rfl | refine And.intro ?_ ?_))
              all_goals (show DV.bool _ = DV.bool _; rw [hs]; simp)
          · simp only [q1, Bool.false_and, Bool.or_false] at hs
            intro z hz
            conv => whnf
            rw [wrap_small (by omega) (by omega)] at hz
            subst hz
            refine ⟨k + 1, [0, 1, 2], by omega, by omega, And.intro rfl (And.intro ?_ ?_)⟩
            all_goals (repeat' (first | exact True.intro | exact rfl | refine And.intro ?_ ?_))
            all_goals (show DV.bool _ = DV.bool _; rw [hs])
        · conv => whnf
          have hk' : k = at_ := by simp at h_; omega
          subst hk'
          exact ⟨[], rfl, (by (repeat' (first | exact True.intro | exact rfl | refine And.intro ?_ ?_))), True.intro⟩
/-! ### owners, in a list -/
def bitsL : List Bool → Int → List Int
  | [], _ => []
  | b :: bs, i => bif b then i :: bitsL bs (i + 1) else bitsL bs (i + 1)
theorem bitsL_len : ∀ (l : List Bool) (i : Int), (bitsL l i).length ≤ l.length
  | [], i => Nat.le_refl _
  | b :: bs, i => by
    have := bitsL_len bs (i + 1)
    cases b <;> simp [bitsL] <;> omega
def pBits (b0 b1 b2 b3 : Bool) : PV := .agg [.d (.bool b0), .d (.bool b1), .d (.bool b2), .d (.bool b3)]
theorem c47r (b0 b1 b2 b3 : Bool) (H : List (List Blk)) : CallEq X H 47 [pBits b0 b1 b2 b3] (.row 0 0 (bitsL [b0, b1, b2, b3] 0).length) [⟨3, 1, rowI (bitsL [b0, b1, b2, b3] 0)⟩] := by
  refine callEq_of_body X_ok rfl Try.func47 rfl ?_
  conv => whnf
  refine loopV_of (fun k : Nat => ⟨[.any, .ptr 0 0 0, .any, .row 0 1 (bitsL ([b0, b1, b2, b3].take k) 0).length, .d (.int .i64 k), .any, .any, .any, .any, .any, .any, .any, .any, .any, .any, .any, .any], [.box [.d (.bool b0), .d (.bool b1), .d (.bool b2), .d (.bool b3)], .row 3 1 (rowI (bitsL ([b0, b1, b2, b3].take k) 0))]⟩)
    (fun k => k ≤ 4) (fun k => 4 - k) 0 [0, 1] (Nat.zero_le _) ?_ ?_
  · refine And.intro rfl (And.intro ?_ ?_)
    all_goals (repeat' (first | exact True.intro | exact rfl | refine And.intro ?_ ?_))
  · intro k hk
    have step : ∀ (k : Nat) (b : Bool), [b0, b1, b2, b3][k]? = some b → bitsL ([b0, b1, b2, b3].take (k + 1)) 0 = bitsL ([b0, b1, b2, b3].take k) 0 ++ bif b then [(k : Int)] else [] := by
      intro k b h
      match k, h with
      | 0, h => simp at h; subst h; cases b0 <;> rfl
      | 1, h => simp at h; subst h; cases b0 <;> cases b1 <;> rfl
      | 2, h => simp at h; subst h; cases b0 <;> cases b1 <;> cases b2 <;> rfl
      | 3, h => simp at h; subst h; cases b0 <;> cases b1 <;> cases b2 <;> cases b3 <;> rfl
      | k + 4, h => simp at h
    match k, hk with
    | 4, _ =>
      conv => whnf
      refine And.intro (fun h_ => absurd h_ (by decide)) (fun h_ => ?_)
      conv => whnf
      exact ⟨[1], rfl, And.intro rfl rfl, And.intro (And.intro rfl (And.intro rfl rfl)) True.intro⟩
    | 0, _ =>
      have st := step 0 b0 rfl
      have hl : (bitsL [] 0).length ≤ 0 := bitsL_len _ _
      conv => whnf
      refine And.intro (fun h_ => ?_) (fun h_ => absurd h_ (by decide))
      conv => whnf
      refine ⟨by decide, by decide, 0, rfl, ?_⟩
      conv => whnf
      refine And.intro (fun q1 => ?_) (fun q1 => ?_) <;> (conv => whnf)
      · refine ⟨fun y hy => by simp at hy; subst hy; rfl, ?_⟩
        conv => whnf
        refine ⟨(rowI_len _).symm, by (first | omega | (dsimp only; omega) | (simp; done) | (simp; omega)), ?_⟩
        conv => whnf
        intro z hz
        conv => whnf
        subst hz
        simp only [q1, cond_true] at st
        refine ⟨0 + 1, [0, 2], by omega, by omega, And.intro rfl (And.intro ?_ ?_)⟩
        all_goals (repeat' (first | exact True.intro | exact rfl | refine And.intro ?_ ?_))
        · show PV.row 0 2 _ = PV.row 0 2 _
          simp only [q1, st]; simp
        · simp only [q1, st]; simp [rowI]
      · intro z hz
        conv => whnf
        subst hz
        simp only [q1, cond_false, List.append_nil] at st
        refine ⟨0 + 1, [0, 1], by omega, by omega, And.intro rfl (And.intro ?_ ?_)⟩
        all_goals (repeat' (first | exact True.intro | exact rfl | refine And.intro ?_ ?_))
        · show PV.row 0 1 _ = PV.row 0 1 _
          simp only [q1, st]
        · simp only [q1, st]
    | 1, _ =>
      have st := step 1 b1 rfl
      have hl : (bitsL [b0] 0).length ≤ 1 := bitsL_len _ _
      conv => whnf
      refine And.intro (fun h_ => ?_) (fun h_ => absurd h_ (by decide))
      conv => whnf
      refine ⟨by decide, by decide, 1, rfl, ?_⟩
      conv => whnf
      refine And.intro (fun q1 => ?_) (fun q1 => ?_) <;> (conv => whnf)
      · refine ⟨fun y hy => by simp at hy; subst hy; rfl, ?_⟩
        conv => whnf
        refine ⟨(rowI_len _).symm, by (first | omega | (dsimp only; omega) | (simp; done) | (simp; omega)), ?_⟩
        conv => whnf
        intro z hz
        conv => whnf
        subst hz
        simp only [q1, cond_true] at st
        refine ⟨1 + 1, [0, 2], by omega, by omega, And.intro rfl (And.intro ?_ ?_)⟩
        all_goals (repeat' (first | exact True.intro | exact rfl | refine And.intro ?_ ?_))
        · show PV.row 0 2 _ = PV.row 0 2 _
          simp only [q1, st]; simp
        · simp only [q1, st]; simp [rowI]
      · intro z hz
        conv => whnf
        subst hz
        simp only [q1, cond_false, List.append_nil] at st
        refine ⟨1 + 1, [0, 1], by omega, by omega, And.intro rfl (And.intro ?_ ?_)⟩
        all_goals (repeat' (first | exact True.intro | exact rfl | refine And.intro ?_ ?_))
        · show PV.row 0 1 _ = PV.row 0 1 _
          simp only [q1, st]
        · simp only [q1, st]
    | 2, _ =>
      have st := step 2 b2 rfl
      have hl : (bitsL [b0, b1] 0).length ≤ 2 := bitsL_len _ _
      conv => whnf
      refine And.intro (fun h_ => ?_) (fun h_ => absurd h_ (by decide))
      conv => whnf
      refine ⟨by decide, by decide, 2, rfl, ?_⟩
      conv => whnf
      refine And.intro (fun q1 => ?_) (fun q1 => ?_) <;> (conv => whnf)
      · refine ⟨fun y hy => by simp at hy; subst hy; rfl, ?_⟩
        conv => whnf
        refine ⟨(rowI_len _).symm, by (first | omega | (dsimp only; omega) | (simp; done) | (simp; omega)), ?_⟩
        conv => whnf
        intro z hz
        conv => whnf
        subst hz
        simp only [q1, cond_true] at st
        refine ⟨2 + 1, [0, 2], by omega, by omega, And.intro rfl (And.intro ?_ ?_)⟩
        all_goals (repeat' (first | exact True.intro | exact rfl | refine And.intro ?_ ?_))
        · show PV.row 0 2 _ = PV.row 0 2 _
          simp only [q1, st]; simp
        · simp only [q1, st]; simp [rowI]
      · intro z hz
        conv => whnf
        subst hz
        simp only [q1, cond_false, List.append_nil] at st
        refine ⟨2 + 1, [0, 1], by omega, by omega, And.intro rfl (And.intro ?_ ?_)⟩
        all_goals (repeat' (first | exact True.intro | exact rfl | refine And.intro ?_ ?_))
        · show PV.row 0 1 _ = PV.row 0 1 _
          simp only [q1, st]
        · simp only [q1, st]
    | 3, _ =>
      have st := step 3 b3 rfl
      have hl : (bitsL [b0, b1, b2] 0).length ≤ 3 := bitsL_len _ _
      conv => whnf
      refine And.intro (fun h_ => ?_) (fun h_ => absurd h_ (by decide))
      conv => whnf
      refine ⟨by decide, by decide, 3, rfl, ?_⟩
      conv => whnf
      refine And.intro (fun q1 => ?_) (fun q1 => ?_) <;> (conv => whnf)
      · refine ⟨fun y hy => by simp at hy; subst hy; rfl, ?_⟩
        conv => whnf
        refine ⟨(rowI_len _).symm, by (first | omega | (dsimp only; omega) | (simp; done) | (simp; omega)), ?_⟩
        conv => whnf
        intro z hz
        conv => whnf
        subst hz
        simp only [q1, cond_true] at st
        refine ⟨3 + 1, [0, 2], by omega, by omega, And.intro rfl (And.intro ?_ ?_)⟩
        all_goals (repeat' (first | exact True.intro | exact rfl | refine And.intro ?_ ?_))
        · show PV.row 0 2 _ = PV.row 0 2 _
          simp only [q1, st]; simp
        · simp only [q1, st]; simp [rowI]
      · intro z hz
        conv => whnf
        subst hz
        simp only [q1, cond_false, List.append_nil] at st
        refine ⟨3 + 1, [0, 1], by omega, by omega, And.intro rfl (And.intro ?_ ?_)⟩
        all_goals (repeat' (first | exact True.intro | exact rfl | refine And.intro ?_ ?_))
        · show PV.row 0 1 _ = PV.row 0 1 _
          simp only [q1, st]
        · simp only [q1, st]
theorem c47 (b0 b1 b2 b3 : Bool) (H : List (List Blk)) : CallEq X H 47 [pBits b0 b1 b2 b3] (.d (encI (bitsL [b0, b1, b2, b3] 0))) [] :=
  (c47r b0 b1 b2 b3 H).freeze 1 (by
    change PV.d (.sl (List.take _ (rowI _))) = _
    rw [List.take_of_length_le (by rw [rowI_len]; exact Nat.le_refl _)]; rfl)
end Go.Proofs.Ve

/- The document's answer: whether locks may be; who waits, and for whom. -/
set_option maxRecDepth 100000
set_option linter.all false
namespace Go.Proofs.Ve
open Go
def rTwice (x y : Lock) : Bool := rClash x y || (x.whole && y.whole && x.owner == y.owner && x.span.t == y.span.t)
def rHeldF (pre : List Lock) : List Lock → Bool
  | [] => true
  | x :: xs => bif rLMay x then (bif pre.any (rTwice x) then false else rHeldF (pre ++ [x]) xs) else false
theorem rHeld_step {l : List Lock} {k : Nat} {x : Lock} (h : l[k]? = some x) : rHeldF (l.take k) (l.drop k) = bif rLMay x then (bif (l.take k).any (rTwice x) then false else rHeldF (l.take (k + 1)) (l.drop (k + 1))) else false := by
  have hk := (List.getElem?_eq_some_iff.1 h).1
  have hx : l[k] = x := (List.getElem?_eq_some_iff.1 h).2
  rw [List.drop_eq_getElem_cons hk, hx, rHeldF, take_snoc' h]
def rQueF (pre : List Lock) : List Lock → Bool
  | [] => true
  | x :: xs => bif rLMay x then (bif pre.any (fun y => y.owner == x.owner) then false else rQueF (pre ++ [x]) xs) else false
theorem rQue_step {l : List Lock} {k : Nat} {x : Lock} (h : l[k]? = some x) : rQueF (l.take k) (l.drop k) = bif rLMay x then (bif (l.take k).any (fun y => y.owner == x.owner) then false else rQueF (l.take (k + 1)) (l.drop (k + 1))) else false := by
  have hk := (List.getElem?_eq_some_iff.1 h).1
  have hx : l[k] = x := (List.getElem?_eq_some_iff.1 h).2
  rw [List.drop_eq_getElem_cons hk, hx, rQueF, take_snoc' h]
def rWeak (x y : Lock) : Bool := x.whole && y.whole && x.owner == y.owner && x.span.t == y.span.t && !rCovers x.mode y.mode
def rAhead (l : Locks) (x : Lock) (k : Nat) : List Int := bitsL [anyB x (l.held ++ l.queue.take k) 0, anyB x (l.held ++ l.queue.take k) 1, anyB x (l.held ++ l.queue.take k) 2, anyB x (l.held ++ l.queue.take k) 3] 0
def rQ2 (l : Locks) : List Lock → Nat → Bool
  | [], _ => true
  | x :: xs, k => bif ((rAhead l x k).length : Int) == 0 then false else bif l.held.any (rWeak x) then false else rQ2 l xs (k + 1)
theorem rQ2_step {l : Locks} {k : Nat} {x : Lock} (h : l.queue[k]? = some x) : rQ2 l (l.queue.drop k) k = bif ((rAhead l x k).length : Int) == 0 then false else bif l.held.any (rWeak x) then false else rQ2 l (l.queue.drop (k + 1)) (k + 1) := by
  have hk := (List.getElem?_eq_some_iff.1 h).1
  rw [List.drop_eq_getElem_cons hk, (List.getElem?_eq_some_iff.1 h).2, rQ2]
def rCheck (l : Locks) : Bool := !decide ((l.held.length : Int) + l.queue.length > 40) && (rHeldF [] l.held && (rQueF [] l.queue && rQ2 l l.queue 0))
theorem any_step {α : Type} {p : α → Bool} {l : List α} {k : Nat} {x : α} (h : l[k]? = some x) : (l.drop k).any p = (p x || (l.drop (k + 1)).any p) := by
  have hk := (List.getElem?_eq_some_iff.1 h).1
  rw [List.drop_eq_getElem_cons hk, (List.getElem?_eq_some_iff.1 h).2, List.any_cons]
theorem heldF_may : ∀ (l pre : List Lock), rHeldF pre l = true → ∀ y ∈ l, rLMay y = true
  | [], _, _, y, h => by cases h
  | x :: l, pre, h, y, hy => by
    rw [rHeldF] at h
    cases h1 : rLMay x with
    | false => rw [h1] at h; cases h
    | true =>
      rw [h1] at h
      cases h2 : pre.any (rTwice x) with
      | true => rw [h2] at h; cases h
      | false =>
        rw [h2] at h
        cases hy with
        | head => exact h1
        | tail _ hy => exact heldF_may l _ h y hy
theorem queF_may : ∀ (l pre : List Lock), rQueF pre l = true → ∀ y ∈ l, rLMay y = true
  | [], _, _, y, h => by cases h
  | x :: l, pre, h, y, hy => by
    rw [rQueF] at h
    cases h1 : rLMay x with
    | false => rw [h1] at h; cases h
    | true =>
      rw [h1] at h
      cases h2 : pre.any (fun y => y.owner == x.owner) with
      | true => rw [h2] at h; cases h
      | false =>
        rw [h2] at h
        cases hy with
        | head => exact h1
        | tail _ hy => exact queF_may l _ h y hy
def bLocks (l : Locks) : Blk := .box [.d (encLocks l.held), .d (encLocks l.queue)]
theorem c20 (l : Locks) (h1 : l.held.length < 100000) (h2 : l.queue.length < 100000) (H : List (List Blk)) : CallEq X H 20 [pLocks l] (.d (.bool (rCheck l))) [] := by
  refine callEq_of_body X_ok rfl Try.func20 rfl ?_
  conv => whnf
  intro z hz
  conv => whnf
  rw [wrap_small (by (first | omega | (dsimp only; omega) | (simp; done) | (simp; omega))) (by (first | omega | (dsimp only; omega) | (simp; done) | (simp; omega))), List.length_map, List.length_map] at hz
  subst hz
  refine And.intro (fun e1 => ?_) (fun e1 => ?_) <;> (conv => whnf)
  · refine ⟨[], rfl, ?_, True.intro⟩
    show DV.bool _ = .bool _
    unfold rCheck; rw [e1]; rfl
  have k1 : rCheck l = (rHeldF [] l.held && (rQueF [] l.queue && rQ2 l l.queue 0)) := by unfold rCheck; rw [e1]; rfl
  refine loopV_of (fun k : Nat => ⟨[.any, .ptr 0 0 0, .any, .d (.int .i64 k), .any, .any, .any, .any, .any, .any, .any, .any, .any, .any, .any, .any, .any, .any, .any, .any, .any, .any, .any, .any, .any, .any, .any, .any, .any, .any, .any, .any, .any, .any, .any, .any, .any, .any, .any, .any, .any, .any, .any, .any, .any, .any, .any, .any, .any, .any, .any, .any, .any, .any, .any, .any, .any, .any, .any, .any, .any, .any, .any, .any, .any, .any, .any, .any, .any, .any, .any, .any, .any, .any, .any, .any, .any, .any, .any, .any, .any, .any, .any, .any, .any, .any, .any, .any, .any, .any, .any, .any, .any, .any, .any, .any, .any, .any, .any, .any, .any, .any, .any, .any, .any, .any, .any, .any, .any, .any, .any, .any, .any, .any, .any, .any, .any, .any, .any, .any, .any, .any, .any, .any, .any, .any, .any, .any, .any, .any, .any, .any, .any, .any, .any, .any, .any, .any, .any, .any, .any, .any, .any, .any, .any, .any, .any, .any, .any, .any, .any, .any, .any, .any, .any, .any, .any, .any, .any, .any, .any, .any, .any, .any, .any, .any, .any, .any, .any, .any, .any], [bLocks l]⟩) (fun k => k ≤ l.held.length ∧ rHeldF [] l.held = rHeldF (l.held.take k) (l.held.drop k)) (fun k => l.held.length - k) 0 [0] ⟨Nat.zero_le _, rfl⟩ ?_ ?_
  · refine And.intro rfl (And.intro ?_ ?_)
    all_goals (repeat' (first | exact True.intro | exact rfl | refine And.intro ?_ ?_))
  · rintro k ⟨hk, hidx⟩
    conv => whnf
    refine And.intro (fun h_ => ?_) (fun h_ => ?_)
    · conv => whnf
      have hk' : k < l.held.length := by simpa using h_
      obtain ⟨x, hx⟩ : ∃ x, l.held[k]? = some x := ⟨_, List.getElem?_eq_getElem hk'⟩
      have hst := rHeld_step hx
      refine ⟨by omega, cLock x, by simp [hx], rfl, ?_⟩
      conv => whnf
      refine ⟨_, _, c54 x _, True.intro, ?_⟩
      conv => whnf
      refine And.intro (fun e2 => ?_) (fun e2 => ?_) <;> (conv => whnf)
      · have e2 : rLMay x = false := by simpa using e2
        refine ⟨[], rfl, ?_, True.intro⟩
        show DV.bool false = .bool _
        rw [k1, hidx, hst, e2]; rfl
      have e2 : rLMay x = true := by simpa using e2
      rw [e2] at hst
      refine loopV_of (fun j : Nat => ⟨[.any, .ptr 0 0 0, .any, .d (.int .i64 k), .ptr 0 1 0, .any, .d (.int .i64 j), .any, .any, .any, .any, .any, .any, .any, .any, .any, .any, .any, .any, .any, .any, .any, .any, .any, .any, .any, .any, .any, .any, .any, .any, .any, .any, .any, .any, .any, .any, .any, .any, .any, .any, .any, .any, .any, .any, .any, .any, .any, .any, .any, .any, .any, .any, .any, .any, .any, .any, .any, .any, .any, .any, .any, .any, .any, .any, .any, .any, .any, .any, .any, .any, .any, .any, .any, .any, .any, .any, .any, .any, .any, .any, .any, .any, .any, .any, .any, .any, .any, .any, .any, .any, .any, .any, .any, .any, .any, .any, .any, .any, .any, .any, .any, .any, .any, .any, .any, .any, .any, .any, .any, .any, .any, .any, .any, .any, .any, .any, .any, .any, .any, .any, .any, .any, .any, .any, .any, .any, .any, .any, .any, .any, .any, .any, .any, .any, .any, .any, .any, .any, .any, .any, .any, .any, .any, .any, .any, .any, .any, .any, .any, .any, .any, .any, .any, .any, .any, .any, .any, .any, .any, .any, .any, .any, .any, .any, .any, .any, .any, .any, .any, .any], [bLocks l, bLock x]⟩) (fun j => j ≤ k ∧ (l.held.take k).any (rTwice x) = ((l.held.take k).drop j).any (rTwice x)) (fun j => k - j) 0 [0, 1] ⟨Nat.zero_le _, rfl⟩ ?_ ?_
      · refine And.intro rfl (And.intro ?_ ?_)
        all_goals (repeat' (first | exact True.intro | exact rfl | refine And.intro ?_ ?_))
      · rintro j ⟨hj, hjdx⟩
        conv => whnf
        refine And.intro (fun h_ => ?_) (fun h_ => ?_)
        · conv => whnf
          have hj' : j < k := by simpa using h_
          obtain ⟨y, hy⟩ : ∃ y, l.held[j]? = some y := ⟨_, List.getElem?_eq_getElem (by omega)⟩
          have hsj := any_step (p := rTwice x) (l := l.held.take k) (k := j) (x := y) (by rw [List.getElem?_take_of_lt hj']; exact hy)
          refine ⟨by omega, cLock y, by simp [hy], rfl, ?_⟩
          conv => whnf
          refine ⟨_, _, c22 x y _, True.intro, ?_⟩
          conv => whnf
          have out : rTwice x y = true → DV.bool false = .bool (rCheck l) := fun h => by rw [k1, hidx, hst, hjdx, hsj, h]; rfl
          have next : rTwice x y = false → (l.held.take k).any (rTwice x) = ((l.held.take k).drop (j + 1)).any (rTwice x) := fun h => by rw [hjdx, hsj, h]; rfl
          clear hsj hjdx hst hidx k1
          repeat' (refine And.intro (fun _ => ?_) (fun _ => ?_) <;> (conv => whnf))
          all_goals (first
            | (refine ⟨[], rfl, out ?_, True.intro⟩; clear out next; unfold rTwice; simp_all; done)
            | (intro z hz
               conv => whnf
               rw [wrap_small (by omega) (by omega)] at hz
               subst hz
               refine ⟨j + 1, [0, 1], ⟨by omega, next ?_⟩, by omega, And.intro rfl (And.intro ?_ ?_)⟩
               · clear out next; unfold rTwice; simp_all; done
               all_goals (repeat' (first | exact True.intro | exact rfl | refine And.intro ?_ ?_))))
        · conv => whnf
          have hj' : j = k := by simp at h_; omega
          have hany : (l.held.take k).any (rTwice x) = false := by rw [hjdx, hj', List.drop_of_length_le (by rw [List.length_take]; omega)]; rfl
          intro z hz
          conv => whnf
          rw [wrap_small (by omega) (by omega)] at hz
          subst hz
          refine ⟨k + 1, [0], ⟨by omega, ?_⟩, by omega, And.intro rfl (And.intro ?_ ?_)⟩
          · rw [hidx, hst, hany]; rfl
          all_goals (repeat' (first | exact True.intro | exact rfl | refine And.intro ?_ ?_))
    · conv => whnf
      have hk' : k = l.held.length := by simp at h_; omega
      have hh : rHeldF [] l.held = true := by rw [hidx, hk', List.drop_length]; rfl
      have k2 : rCheck l = (rQueF [] l.queue && rQ2 l l.queue 0) := by rw [k1, hh]; rfl
      have o1 : ∀ y ∈ l.held, ownOk y := fun y hy => may_own (heldF_may _ _ hh y hy)
      clear hidx k1
      refine loopV_of (fun k : Nat => ⟨[.any, .ptr 0 0 0, .any, .any, .any, .any, .any, .any, .any, .d (.int .i64 k), .any, .any, .any, .any, .any, .any, .any, .any, .any, .any, .any, .any, .any, .any, .any, .any, .any, .any, .any, .any, .any, .any, .any, .any, .any, .any, .any, .any, .any, .any, .any, .any, .any, .any, .any, .any, .any, .any, .any, .any, .any, .any, .any, .any, .any, .any, .any, .any, .any, .any, .any, .any, .any, .any, .any, .any, .any, .any, .any, .any, .any, .any, .any, .any, .any, .any, .any, .any, .any, .any, .any, .any, .any, .any, .any, .any, .any, .any, .any, .any, .any, .any, .any, .any, .any, .any, .any, .any, .any, .any, .any, .any, .any, .any, .any, .any, .any, .any, .any, .any, .any, .any, .any, .any, .any, .any, .any, .any, .any, .any, .any, .any, .any, .any, .any, .any, .any, .any, .any, .any, .any, .any, .any, .any, .any, .any, .any, .any, .any, .any, .any, .any, .any, .any, .any, .any, .any, .any, .any, .any, .any, .any, .any, .any, .any, .any, .any, .any, .any, .any, .any, .any, .any, .any, .any, .any, .any, .any, .any, .any, .any], [bLocks l]⟩) (fun k => k ≤ l.queue.length ∧ rQueF [] l.queue = rQueF (l.queue.take k) (l.queue.drop k)) (fun k => l.queue.length - k) 0 [0] ⟨Nat.zero_le _, rfl⟩ ?_ ?_
      · refine And.intro rfl (And.intro ?_ ?_)
        all_goals (repeat' (first | exact True.intro | exact rfl | refine And.intro ?_ ?_))
      · rintro k ⟨hk, hidx⟩
        conv => whnf
        refine And.intro (fun h_ => ?_) (fun h_ => ?_)
        · conv => whnf
          have hk' : k < l.queue.length := by simpa using h_
          obtain ⟨x, hx⟩ : ∃ x, l.queue[k]? = some x := ⟨_, List.getElem?_eq_getElem hk'⟩
          have hst := rQue_step hx
          refine ⟨by omega, cLock x, by simp [hx], rfl, ?_⟩
          conv => whnf
          refine ⟨_, _, c54 x _, True.intro, ?_⟩
          conv => whnf
          refine And.intro (fun e2 => ?_) (fun e2 => ?_) <;> (conv => whnf)
          · have e2 : rLMay x = false := by simpa using e2
            refine ⟨[], rfl, ?_, True.intro⟩
            show DV.bool false = .bool _
            rw [k2, hidx, hst, e2]; rfl
          have e2 : rLMay x = true := by simpa using e2
          rw [e2] at hst
          refine loopV_of (fun j : Nat => ⟨[.any, .ptr 0 0 0, .any, .any, .any, .any, .any, .any, .any, .d (.int .i64 k), .any, .d (.int .i64 j), .any, .any, .any, .any, .any, .any, .any, .any, .any, .any, .any, .any, .any, .any, .any, .any, .any, .any, .any, .any, .any, .any, .any, .any, .any, .any, .any, .any, .any, .any, .any, .any, .any, .any, .any, .any, .any, .any, .any, .any, .any, .any, .any, .any, .any, .any, .any, .any, .any, .any, .any, .any, .any, .any, .any, .any, .any, .any, .any, .any, .any, .any, .any, .any, .any, .any, .any, .any, .any, .any, .any, .any, .any, .any, .any, .any, .any, .any, .any, .any, .any, .any, .any, .any, .any, .any, .any, .any, .any, .any, .any, .any, .any, .any, .any, .any, .any, .any, .any, .any, .any, .any, .any, .any, .any, .any, .any, .any, .any, .any, .any, .any, .any, .any, .any, .any, .any, .any, .any, .any, .any, .any, .any, .any, .any, .any, .any, .any, .any, .any, .any, .any, .any, .any, .any, .any, .any, .any, .any, .any, .any, .any, .any, .any, .any, .any, .any, .any, .any, .any, .any, .any, .any, .any, .any, .any, .any, .any, .any], [bLocks l]⟩) (fun j => j ≤ k ∧ (l.queue.take k).any (fun y => y.owner == x.owner) = ((l.queue.take k).drop j).any (fun y => y.owner == x.owner)) (fun j => k - j) 0 [0] ⟨Nat.zero_le _, rfl⟩ ?_ ?_
          · refine And.intro rfl (And.intro ?_ ?_)
            all_goals (repeat' (first | exact True.intro | exact rfl | refine And.intro ?_ ?_))
          · rintro j ⟨hj, hjdx⟩
            conv => whnf
            refine And.intro (fun h_ => ?_) (fun h_ => ?_)
            · conv => whnf
              have hj' : j < k := by simpa using h_
              obtain ⟨y, hy⟩ : ∃ y, l.queue[j]? = some y := ⟨_, List.getElem?_eq_getElem (by omega)⟩
              have hsj := any_step (p := fun y : Lock => y.owner == x.owner) (l := l.queue.take k) (k := j) (x := y) (by rw [List.getElem?_take_of_lt hj']; exact hy)
              refine ⟨by omega, cLock y, by simp [hy], rfl, ?_⟩
              conv => whnf
              refine ⟨by omega, cLock x, by simp [hx], rfl, ?_⟩
              conv => whnf
              refine And.intro (fun q => ?_) (fun q => ?_) <;> (conv => whnf)
              · refine ⟨[], rfl, ?_, True.intro⟩
                show DV.bool false = .bool _
                rw [k2, hidx, hst, hjdx, hsj, q]; rfl
              · intro z hz
                conv => whnf
                rw [wrap_small (by omega) (by omega)] at hz
                subst hz
                refine ⟨j + 1, [0], ⟨by omega, by rw [hjdx, hsj, q]; rfl⟩, by omega, And.intro rfl (And.intro ?_ ?_)⟩
                all_goals (repeat' (first | exact True.intro | exact rfl | refine And.intro ?_ ?_))
            · conv => whnf
              have hj' : j = k := by simp at h_; omega
              have hany : (l.queue.take k).any (fun y => y.owner == x.owner) = false := by rw [hjdx, hj', List.drop_of_length_le (by rw [List.length_take]; omega)]; rfl
              intro z hz
              conv => whnf
              rw [wrap_small (by omega) (by omega)] at hz
              subst hz
              refine ⟨k + 1, [0], ⟨by omega, ?_⟩, by omega, And.intro rfl (And.intro ?_ ?_)⟩
              · rw [hidx, hst, hany]; rfl
              all_goals (repeat' (first | exact True.intro | exact rfl | refine And.intro ?_ ?_))
        · conv => whnf
          have hk' : k = l.queue.length := by simp at h_; omega
          have hh : rQueF [] l.queue = true := by rw [hidx, hk', List.drop_length]; rfl
          have k3 : rCheck l = rQ2 l l.queue 0 := by rw [k2, hh]; rfl
          have o2 : ∀ y ∈ l.queue, ownOk y := fun y hy => may_own (queF_may _ _ hh y hy)
          clear hidx k2
          refine loopV_of (fun k : Nat => ⟨[.any, .ptr 0 0 0, .any, .any, .any, .any, .any, .any, .any, .any, .any, .any, .d (.int .i64 k), .any, .any, .any, .any, .any, .any, .any, .any, .any, .any, .any, .any, .any, .any, .any, .any, .any, .any, .any, .any, .any, .any, .any, .any, .any, .any, .any, .any, .any, .any, .any, .any, .any, .any, .any, .any, .any, .any, .any, .any, .any, .any, .any, .any, .any, .any, .any, .any, .any, .any, .any, .any, .any, .any, .any, .any, .any, .any, .any, .any, .any, .any, .any, .any, .any, .any, .any, .any, .any, .any, .any, .any, .any, .any, .any, .any, .any, .any, .any, .any, .any, .any, .any, .any, .any, .any, .any, .any, .any, .any, .any, .any, .any, .any, .any, .any, .any, .any, .any, .any, .any, .any, .any, .any, .any, .any, .any, .any, .any, .any, .any, .any, .any, .any, .any, .any, .any, .any, .any, .any, .any, .any, .any, .any, .any, .any, .any, .any, .any, .any, .any, .any, .any, .any, .any, .any, .any, .any, .any, .any, .any, .any, .any, .any, .any, .any, .any, .any, .any, .any, .any, .any, .any, .any, .any, .any, .any, .any], [bLocks l]⟩) (fun k => k ≤ l.queue.length ∧ rQ2 l l.queue 0 = rQ2 l (l.queue.drop k) k) (fun k => l.queue.length - k) 0 [0] ⟨Nat.zero_le _, rfl⟩ ?_ ?_
          · refine And.intro rfl (And.intro ?_ ?_)
            all_goals (repeat' (first | exact True.intro | exact rfl | refine And.intro ?_ ?_))
          · rintro k ⟨hk, hidx⟩
            conv => whnf
            refine And.intro (fun h_ => ?_) (fun h_ => ?_)
            · conv => whnf
              have hk' : k < l.queue.length := by simpa using h_
              obtain ⟨x, hx⟩ : ∃ x, l.queue[k]? = some x := ⟨_, List.getElem?_eq_getElem hk'⟩
              have hst := rQ2_step hx
              refine ⟨_, _, c48 l x k hx h1 h2 o1 o2 _, True.intro, ?_⟩
              conv => whnf
              refine ⟨_, _, c47 _ _ _ _ _, True.intro, ?_⟩
              conv => whnf
              have e0 : (((rAhead l x k).map fun x => [DV.int .i64 x]).length : Int) = ((rAhead l x k).length : Int) := by simp
              refine And.intro (fun e3 => ?_) (fun e3 => ?_) <;> (conv => whnf)
              · have e3 : (((rAhead l x k).map fun x => [DV.int .i64 x]).length : Int) == 0 := e3
                rw [e0] at e3
                refine ⟨[], rfl, ?_, True.intro⟩
                show DV.bool false = .bool _
                rw [k3, hidx, hst, e3]; rfl
              have e3 : ((((rAhead l x k).map fun x => [DV.int .i64 x]).length : Int) == 0) = false := e3
              rw [e0] at e3
              rw [e3] at hst
              refine loopV_of (fun j : Nat => ⟨[.any, .ptr 0 0 0, .any, .any, .any, .any, .any, .any, .any, .any, .any, .any, .d (.int .i64 k), .d (.int .i64 j), .any, .any, .any, .any, .any, .any, .any, .any, .any, .any, .any, .any, .any, .any, .any, .any, .any, .any, .any, .any, .any, .any, .any, .any, .any, .any, .any, .any, .any, .any, .any, .any, .any, .any, .any, .any, .any, .any, .any, .any, .any, .any, .any, .any, .any, .any, .any, .any, .any, .any, .any, .any, .any, .any, .any, .any, .any, .any, .any, .any, .any, .any, .any, .any, .any, .any, .any, .any, .any, .any, .any, .any, .any, .any, .any, .any, .any, .any, .any, .any, .any, .any, .any, .any, .any, .any, .any, .any, .any, .any, .any, .any, .any, .any, .any, .any, .any, .any, .any, .any, .any, .any, .any, .any, .any, .any, .any, .any, .any, .any, .any, .any, .any, .any, .any, .any, .any, .any, .any, .any, .any, .any, .any, .any, .any, .any, .any, .any, .any, .any, .any, .any, .any, .any, .any, .any, .any, .any, .any, .any, .any, .any, .any, .any, .any, .any, .any, .any, .any, .any, .any, .any, .any, .any, .any, .any, .any], [bLocks l]⟩) (fun j => j ≤ l.held.length ∧ l.held.any (rWeak x) = (l.held.drop j).any (rWeak x)) (fun j => l.held.length - j) 0 [0] ⟨Nat.zero_le _, rfl⟩ ?_ ?_
              · refine And.intro rfl (And.intro ?_ ?_)
                all_goals (repeat' (first | exact True.intro | exact rfl | refine And.intro ?_ ?_))
              · rintro j ⟨hj, hjdx⟩
                conv => whnf
                refine And.intro (fun h_ => ?_) (fun h_ => ?_)
                · conv => whnf
                  have hj' : j < l.held.length := by simpa using h_
                  obtain ⟨y, hy⟩ : ∃ y, l.held[j]? = some y := ⟨_, List.getElem?_eq_getElem (by omega)⟩
                  have hsj := any_step (p := rWeak x) hy
                  refine ⟨by omega, cLock x, by simp [hx], rfl, ?_⟩
                  conv => whnf
                  refine ⟨by omega, cLock y, by simp [hy], rfl, ?_⟩
                  conv => whnf
                  have out : rWeak x y = true → DV.bool false = .bool (rCheck l) := fun h => by rw [k3, hidx, hst, hjdx, hsj, h]; rfl
                  have next : rWeak x y = false → l.held.any (rWeak x) = (l.held.drop (j + 1)).any (rWeak x) := fun h => by rw [hjdx, hsj, h]; rfl
                  clear hsj hjdx hst hidx k3
                  repeat' (first | (refine And.intro (fun _ => ?_) (fun _ => ?_) <;> (conv => whnf)) | (refine ⟨_, _, c55 _ _ _, True.intro, ?_⟩; conv => whnf))
                  all_goals (first
                    | (refine ⟨[], rfl, out ?_, True.intro⟩; clear out next; unfold rWeak; simp_all; done)
                    | (intro z hz
                       conv => whnf
                       rw [wrap_small (by omega) (by omega)] at hz
                       subst hz
                       refine ⟨j + 1, [0], ⟨by omega, next ?_⟩, by omega, And.intro rfl (And.intro ?_ ?_)⟩
                       · clear out next; unfold rWeak; simp_all; done
                       all_goals (repeat' (first | exact True.intro | exact rfl | refine And.intro ?_ ?_))))
                · conv => whnf
                  have hj' : j = l.held.length := by simp at h_; omega
                  have hany : l.held.any (rWeak x) = false := by rw [hjdx, hj', List.drop_length]; rfl
                  intro z hz
                  conv => whnf
                  rw [wrap_small (by omega) (by omega)] at hz
                  subst hz
                  refine ⟨k + 1, [0], ⟨by omega, ?_⟩, by omega, And.intro rfl (And.intro ?_ ?_)⟩
                  · rw [hidx, hst, hany]; rfl
                  all_goals (repeat' (first | exact True.intro | exact rfl | refine And.intro ?_ ?_))
            · conv => whnf
              have hk' : k = l.queue.length := by simp at h_; omega
              refine ⟨[], rfl, ?_, True.intro⟩
              show DV.bool true = .bool _
              rw [k3, hidx, hk', List.drop_length]; rfl
theorem rCheck_own {l : Locks} (h : rCheck l = true) : (∀ y ∈ l.held, ownOk y) ∧ ∀ y ∈ l.queue, ownOk y := by
  unfold rCheck at h
  simp only [Bool.and_eq_true] at h
  exact ⟨fun y hy => may_own (heldF_may _ _ h.2.1 y hy), fun y hy => may_own (queF_may _ _ h.2.2.1 y hy)⟩
def rWaits (l : Locks) (o : Int) : Bool := rCheck l && decide (place l.queue o ≥ 0)
theorem c24 (l : Locks) (o : Int) (h1 : l.held.length < 100000) (h2 : l.queue.length < 100000) (H : List (List Blk)) : CallEq X H 24 [pLocks l, .d (.int .i64 o)] (.d (.bool (rWaits l o))) [] := by
  unfold rWaits
  refine callEq_of_body X_ok rfl Try.func24 rfl ?_
  conv => whnf
  repeat' (first
    | (refine And.intro (fun h_ => ?_) (fun h_ => ?_) <;> (conv => whnf))
    | (refine ⟨_, _, c20 l h1 h2 _, (by first | exact True.intro | exact And.intro rfl flat_nil), ?_⟩; conv => whnf)
    | (refine ⟨_, _, c46 l o (by omega) _, (by first | exact True.intro | exact And.intro rfl flat_nil), ?_⟩; conv => whnf)
    | (intro z_ hz_; conv => whnf)
    | (refine ⟨[], rfl, ?_, True.intro⟩; (conv => whnf); (first | done | (simp_all only [refP, Bool.not_true, Bool.not_false, Bool.true_and, Bool.false_and, Bool.and_true, Bool.and_false, Bool.true_or, Bool.false_or, Bool.or_true, Bool.or_false, Bool.not_not, Bool.not_eq_true', Bool.not_eq_false', if_true, if_false, Bool.false_eq_true, Bool.true_eq_false, List.length_map]; done)))
    | fail)
def rBlockers (l : Locks) (o : Int) : List Int := if rWaits l o then (match l.queue[(place l.queue o).toNat]? with | some y => rAhead l y (place l.queue o).toNat | none => []) else []
theorem c18 (l : Locks) (o : Int) (h1 : l.held.length < 100000) (h2 : l.queue.length < 100000) (H : List (List Blk)) : CallEq X H 18 [pLocks l, .d (.int .i64 o)] (.d (encI (rBlockers l o))) [] := by
  refine callEq_of_body X_ok rfl Try.func18 rfl ?_
  conv => whnf
  refine ⟨_, _, c20 l h1 h2 _, True.intro, ?_⟩
  conv => whnf
  have no : rWaits l o = false → DV.sl [] = encI (rBlockers l o) := fun h => by unfold rBlockers; rw [h]; rfl
  refine And.intro (fun q1 => ?_) (fun q1 => ?_) <;> (conv => whnf)
  rotate_left
  · refine ⟨[], rfl, no ?_, True.intro⟩
    have q1 : rCheck l = false := by simpa using q1
    unfold rWaits; rw [q1]; rfl
  · have q1 : rCheck l = true := by simpa using q1
    refine ⟨_, _, c46 l o (by omega) _, True.intro, ?_⟩
    conv => whnf
    refine And.intro (fun q2 => ?_) (fun q2 => ?_) <;> (conv => whnf)
    · refine ⟨[], rfl, no ?_, True.intro⟩
      unfold rWaits; rw [q1]; simp at q2 ⊢; omega
    · have hp : place l.queue o ≥ 0 := by simp at q2; omega
      have hw : rWaits l o = true := by unfold rWaits; rw [q1]; simp; omega
      obtain ⟨y, hy, ho⟩ := place_at hp
      obtain ⟨o1, o2⟩ := rCheck_own q1
      refine ⟨_, _, c46 l o (by omega) _, True.intro, ?_⟩
      conv => whnf
      have hc := fun H => c48 l y (place l.queue o).toNat hy h1 h2 o1 o2 H
      rw [show (((place l.queue o).toNat : Nat) : Int) = place l.queue o by omega] at hc
      refine ⟨_, _, hc _, True.intro, ?_⟩
      conv => whnf
      refine ⟨_, _, c47 _ _ _ _ _, True.intro, ?_⟩
      conv => whnf
      refine ⟨[], rfl, ?_, True.intro⟩
      show encI _ = encI (rBlockers l o)
      unfold rBlockers; rw [hw, if_pos rfl, hy]; rfl
end Go.Proofs.Ve

/- Locks in memory of their own: lists, Same. -/
set_option maxRecDepth 100000
set_option linter.all false
namespace Go.Proofs.Ve
open Go
/-- spans of few bytes -/
def smallX (x : Lock) : Prop := x.span.lo.length ≤ 1000000 ∧ x.span.hi.length ≤ 1000000
def smallL (l : List Lock) : Prop := ∀ x ∈ l, smallX x
theorem c107 (x y : Lock) (T1 : List Blk) (rest : List Blk) (H : List (List Blk)) : CallEq X (T1 :: (bLock x :: rest) :: H) 107 [pLock y, .ptr 2 0 0] (.d (.bool (x.whole && y.whole && y.owner == x.owner && y.span.t == x.span.t))) [] := by
  refine callEq_of_body X_ok rfl Try.func107 rfl ?_
  conv => whnf
  repeat' (first
    | (refine And.intro (fun h_ => ?_) (fun h_ => ?_) <;> (conv => whnf))
    | (intro z_ hz_; conv => whnf)
    | (refine ⟨[], rfl, ?_, True.intro⟩; (conv => whnf); (first | done | (simp_all only [refP, Bool.not_true, Bool.not_false, Bool.true_and, Bool.false_and, Bool.and_true, Bool.and_false, Bool.true_or, Bool.false_or, Bool.or_true, Bool.or_false, Bool.not_not, Bool.not_eq_true', Bool.not_eq_false', if_true, if_false, Bool.false_eq_true, Bool.true_eq_false, List.length_map]; done)))
    | fail)
def lWholeP (x y : Lock) : Bool := x.whole && y.whole && y.owner == x.owner && y.span.t == x.span.t
theorem i107 (p : Lock → Bool) (l0 i0 : Nat) (xs : List Lock) (H : List (List Blk)) (hlen : xs.length < 1000000) (hp : ∀ x, x ∈ xs → ∀ T, CallEq X (T :: H) 107 [pLock x, .ptr (l0 + 2) i0 0] (.d (.bool (p x))) []) :
    CallEq X H 82 [.d (.sl (xs.map cLock)), .func (.func 107) [] [.ptr (l0 + 1) i0 0]] (.d (.int .i64 (idxOf p xs 0))) [] := by
  refine callEq_of_body X_ok rfl Try.func82 rfl ?_
  conv => whnf
  refine loopV_of (fun k : Nat => ⟨[.d (.sl (xs.map cLock)), .func (.func 107) [] [.ptr (l0 + 1) i0 0], .any, .any, .any, .any, .any, .d (.int .i64 (xs.map cLock).length), .d (.int .i64 k), .any, .any, .any, .any, .any, .any, .any, .any, .any, .any], []⟩) (fun k => k ≤ xs.length ∧ idxOf p xs 0 = idxOf p (xs.drop k) k) (fun k => xs.length - k) 0 [] ⟨Nat.zero_le _, by simp⟩ ?_ ?_
  · refine And.intro rfl (And.intro ?_ True.intro)
    repeat' (first | exact True.intro | exact rfl | refine And.intro ?_ ?_)
  · rintro k ⟨hk, hidx⟩
    conv => whnf
    refine And.intro (fun h_ => ?_) (fun h_ => ?_)
    · conv => whnf
      have hk' : k < xs.length := by simpa using h_
      obtain ⟨x, hx⟩ : ∃ x, xs[k]? = some x := ⟨_, List.getElem?_eq_getElem hk'⟩
      have hst := idxOf_step (p := p) hx
      refine ⟨by omega, cLock x, by simp [hx], rfl, ?_⟩
      conv => whnf
      refine ⟨_, _, hp x (List.mem_of_getElem? hx) _, True.intro, ?_⟩
      conv => whnf
      refine And.intro (fun h1 => ?_) (fun h1 => ?_)
      · conv => whnf
        refine ⟨[], rfl, ?_, True.intro⟩
        show DV.int .i64 (k : Int) = .int .i64 (idxOf p xs 0)
        rw [hidx, hst, h1]; rfl
      · conv => whnf
        intro z hz
        conv => whnf
        rw [wrap_small (by omega) (by omega)] at hz
        subst hz
        refine ⟨k + 1, [], ⟨by omega, ?_⟩, by omega, And.intro rfl (And.intro ?_ True.intro)⟩
        · rw [hidx, hst, h1]; rfl
        · repeat' (first | exact True.intro | exact rfl | refine And.intro ?_ ?_)
    · conv => whnf
      have hk' : k = xs.length := by simp at h_; omega
      refine ⟨[], rfl, ?_, True.intro⟩
      show DV.int .i64 (-1) = .int .i64 (idxOf p xs 0)
      rw [hidx, hk', List.drop_length]; rfl
def lWhole (l : List Lock) (x : Lock) : Int := idxOf (lWholeP x) l 0
theorem c67 (l : List Lock) (x : Lock) (hl : l.length < 1000000) (H : List (List Blk)) : CallEq X H 67 [.d (encLocks l), pLock x] (.d (.int .i64 (lWhole l x))) [] := by
  unfold lWhole
  refine callEq_of_body X_ok rfl Try.func67 rfl ?_
  conv => whnf
  repeat' (first
    | (refine And.intro (fun h_ => ?_) (fun h_ => ?_) <;> (conv => whnf))
    | (refine ⟨_, _, i107 (lWholeP x) 0 0 l _ hl (fun y _ T => c107 x y _ _ _), (by first | exact True.intro | exact And.intro rfl flat_nil), ?_⟩; conv => whnf)
    | (intro z_ hz_; conv => whnf)
    | (refine ⟨[], rfl, ?_, True.intro⟩; (conv => whnf); (first | done | (simp_all only [refP, Bool.not_true, Bool.not_false, Bool.true_and, Bool.false_and, Bool.and_true, Bool.and_false, Bool.true_or, Bool.false_or, Bool.or_true, Bool.or_false, Bool.not_not, Bool.not_eq_true', Bool.not_eq_false', if_true, if_false, Bool.false_eq_true, Bool.true_eq_false, List.length_map]; done)))
    | fail)
theorem c69 (x : Lock) (H : List (List Blk)) : CallEq X H 69 [pLock x] (.d (.bool false)) [] := by
  refine callEq_of_body X_ok rfl Try.func69 rfl ?_
  conv => whnf
  repeat' (first
    | (refine And.intro (fun h_ => ?_) (fun h_ => ?_) <;> (conv => whnf))
    | (intro z_ hz_; conv => whnf)
    | (refine ⟨[], rfl, ?_, True.intro⟩; (conv => whnf); (first | done | (simp_all only [refP, Bool.not_true, Bool.not_false, Bool.true_and, Bool.false_and, Bool.and_true, Bool.and_false, Bool.true_or, Bool.false_or, Bool.or_true, Bool.or_false, Bool.not_not, Bool.not_eq_true', Bool.not_eq_false', if_true, if_false, Bool.false_eq_true, Bool.true_eq_false, List.length_map]; done)))
    | fail)
theorem c102 (x : Lock) (H : List (List Blk)) : CallEq X H 102 [pLock x] (.d (.bool false)) [] := by
  refine callEq_of_body X_ok rfl Try.func102 rfl ?_
  conv => whnf
  repeat' (first
    | (refine And.intro (fun h_ => ?_) (fun h_ => ?_) <;> (conv => whnf))
    | (intro z_ hz_; conv => whnf)
    | (refine ⟨[], rfl, ?_, True.intro⟩; (conv => whnf); (first | done | (simp_all only [refP, Bool.not_true, Bool.not_false, Bool.true_and, Bool.false_and, Bool.and_true, Bool.and_false, Bool.true_or, Bool.false_or, Bool.or_true, Bool.or_false, Bool.not_not, Bool.not_eq_true', Bool.not_eq_false', if_true, if_false, Bool.false_eq_true, Bool.true_eq_false, List.length_map]; done)))
    | fail)
theorem c61 (x : Lock) (o : Int) (T1 : List Blk) (B0 : Blk) (rest : List Blk) (H : List (List Blk)) : CallEq X (T1 :: (B0 :: .box [.d (.int .i64 o)] :: rest) :: H) 61 [pLock x, .ptr 2 1 0] (.d (.bool (x.owner == o))) [] := by
  refine callEq_of_body X_ok rfl Try.func61 rfl ?_
  conv => whnf
  repeat' (first
    | (refine And.intro (fun h_ => ?_) (fun h_ => ?_) <;> (conv => whnf))
    | (intro z_ hz_; conv => whnf)
    | (refine ⟨[], rfl, ?_, True.intro⟩; (conv => whnf); (first | done | (simp_all only [refP, Bool.not_true, Bool.not_false, Bool.true_and, Bool.false_and, Bool.and_true, Bool.and_false, Bool.true_or, Bool.false_or, Bool.or_true, Bool.or_false, Bool.not_not, Bool.not_eq_true', Bool.not_eq_false', if_true, if_false, Bool.false_eq_true, Bool.true_eq_false, List.length_map]; done)))
    | fail)
theorem filter_snoc {α : Type} {p : α → Bool} {l : List α} {k : Nat} {x : α} (h : l[k]? = some x) : (l.take (k + 1)).filter p = (l.take k).filter p ++ bif p x then [x] else [] := by
  rw [take_snoc' h, List.filter_append]
  cases hp : p x <;> simp [hp]
theorem filter_le {α : Type} {p : α → Bool} {l : List α} (k : Nat) : ((l.take k).filter p).length ≤ l.length :=
  Nat.le_trans (List.length_filter_le _ _) (by rw [List.length_take]; omega)
theorem l69 (p : Lock → Bool)  (xs : List Lock) (H : List (List Blk)) (hlen : xs.length < 1000000) (hsm : smallL xs) (hp : ∀ x, x ∈ xs → ∀ T, CallEq X (T :: H) 69 [pLock x] (.d (.bool (p x))) []) :
    CallEq X H 62 [.d (encLocks xs), .func (.func 69) [] []] (.row 0 0 (xs.filter fun x => !p x).length) [⟨29, 7, (xs.filter fun x => !p x).map cLock⟩] := by
  refine callEq_of_body X_ok rfl Try.func62 rfl ?_
  conv => whnf
  refine loopV_of (fun k : Nat => ⟨[.any, .func (.func 69) [] [], .any, .any, .row 0 0 ((xs.take k).filter fun x => !p x).length, .any, .any, .d (encLocks xs), .d (.int .i64 (xs.map cLock).length), .d (.int .i64 k), .any, .any, .any, .any, .any, .any, .any, .any, .any, .any, .any, .any, .any, .any, .any, .any, .any, .any, .any, .any, .any, .any, .any, .any, .any], [.row 29 7 (((xs.take k).filter fun x => !p x).map cLock)]⟩)
    (fun k => k ≤ xs.length) (fun k => xs.length - k) 0 [0] (Nat.zero_le _) ?_ ?_
  · refine And.intro rfl (And.intro ?_ ?_)
    all_goals (repeat' (first | exact True.intro | exact rfl | refine And.intro ?_ ?_))
  · intro k hk
    conv => whnf
    refine And.intro (fun h_ => ?_) (fun h_ => ?_)
    · conv => whnf
      have hk' : k < xs.length := by simpa using h_
      obtain ⟨x, hx⟩ : ∃ x, xs[k]? = some x := ⟨_, List.getElem?_eq_getElem hk'⟩
      have hs := filter_snoc (p := fun x => !p x) hx
      have hle := filter_le (p := fun x => !p x) (l := xs) k
      obtain ⟨m1, m2⟩ := hsm x (List.mem_of_getElem? hx)
      refine ⟨by omega, cLock x, by simp [hx], rfl, ?_⟩
      conv => whnf
      refine ⟨_, _, hp x (List.mem_of_getElem? hx) _, True.intro, ?_⟩
      conv => whnf
      refine And.intro (fun q1 => ?_) (fun q1 => ?_) <;> (conv => whnf)
      rotate_left
      · have q1 : p x = true := by simpa using q1
        rw [q1] at hs
        simp only [Bool.not_true, cond_false, List.append_nil] at hs
        intro z hz
        conv => whnf
        rw [wrap_small (by omega) (by omega)] at hz
        subst hz
        refine ⟨k + 1, [0], by omega, by omega, And.intro rfl (And.intro ?_ ?_)⟩
        all_goals (repeat' (first | exact True.intro | exact rfl | refine And.intro ?_ ?_))
        · show PV.row 0 0 _ = PV.row 0 0 _
          rw [hs]
        · rw [hs]
      · have q1 : p x = false := by simpa using q1
        rw [q1] at hs
        simp only [Bool.not_false, cond_true] at hs
        have hs' : ((xs.take (k + 1)).filter fun x => !p x).length = ((xs.take k).filter fun x => !p x).length + 1 := by rw [hs]; simp
        refine ⟨_, _, c103 x.span.lo (by omega) _, True.intro, ?_⟩
        conv => whnf
        refine ⟨_, _, c103 x.span.hi (by omega) _, True.intro, ?_⟩
        conv => whnf
        refine ⟨fun y hy => by simp at hy; subst hy; rfl, ?_⟩
        conv => whnf
        refine ⟨by rw [List.length_map], by (first | omega | (dsimp only; omega) | (simp; done) | (simp; omega)), ?_⟩
        conv => whnf
        intro z hz
        conv => whnf
        rw [wrap_small (by omega) (by omega)] at hz
        subst hz
        refine ⟨k + 1, [2], by omega, by omega, And.intro rfl (And.intro ?_ ?_)⟩
        all_goals (repeat' (first | exact True.intro | exact rfl | refine And.intro ?_ ?_))
        · show PV.row 0 2 _ = PV.row 0 2 _
          rw [hs']; rfl
        · rw [hs, List.map_append]; rfl
    · conv => whnf
      have hk' : k = xs.length := by simp at h_; omega
      subst hk'
      rw [List.take_length]
      exact ⟨[0], rfl, And.intro rfl rfl, And.intro (And.intro rfl (And.intro rfl rfl)) True.intro⟩
theorem l102 (p : Lock → Bool)  (xs : List Lock) (H : List (List Blk)) (hlen : xs.length < 1000000) (hsm : smallL xs) (hp : ∀ x, x ∈ xs → ∀ T, CallEq X (T :: H) 102 [pLock x] (.d (.bool (p x))) []) :
    CallEq X H 62 [.d (encLocks xs), .func (.func 102) [] []] (.row 0 0 (xs.filter fun x => !p x).length) [⟨29, 7, (xs.filter fun x => !p x).map cLock⟩] := by
  refine callEq_of_body X_ok rfl Try.func62 rfl ?_
  conv => whnf
  refine loopV_of (fun k : Nat => ⟨[.any, .func (.func 102) [] [], .any, .any, .row 0 0 ((xs.take k).filter fun x => !p x).length, .any, .any, .d (encLocks xs), .d (.int .i64 (xs.map cLock).length), .d (.int .i64 k), .any, .any, .any, .any, .any, .any, .any, .any, .any, .any, .any, .any, .any, .any, .any, .any, .any, .any, .any, .any, .any, .any, .any, .any, .any], [.row 29 7 (((xs.take k).filter fun x => !p x).map cLock)]⟩)
    (fun k => k ≤ xs.length) (fun k => xs.length - k) 0 [0] (Nat.zero_le _) ?_ ?_
  · refine And.intro rfl (And.intro ?_ ?_)
    all_goals (repeat' (first | exact True.intro | exact rfl | refine And.intro ?_ ?_))
  · intro k hk
    conv => whnf
    refine And.intro (fun h_ => ?_) (fun h_ => ?_)
    · conv => whnf
      have hk' : k < xs.length := by simpa using h_
      obtain ⟨x, hx⟩ : ∃ x, xs[k]? = some x := ⟨_, List.getElem?_eq_getElem hk'⟩
      have hs := filter_snoc (p := fun x => !p x) hx
      have hle := filter_le (p := fun x => !p x) (l := xs) k
      obtain ⟨m1, m2⟩ := hsm x (List.mem_of_getElem? hx)
      refine ⟨by omega, cLock x, by simp [hx], rfl, ?_⟩
      conv => whnf
      refine ⟨_, _, hp x (List.mem_of_getElem? hx) _, True.intro, ?_⟩
      conv => whnf
      refine And.intro (fun q1 => ?_) (fun q1 => ?_) <;> (conv => whnf)
      rotate_left
      · have q1 : p x = true := by simpa using q1
        rw [q1] at hs
        simp only [Bool.not_true, cond_false, List.append_nil] at hs
        intro z hz
        conv => whnf
        rw [wrap_small (by omega) (by omega)] at hz
        subst hz
        refine ⟨k + 1, [0], by omega, by omega, And.intro rfl (And.intro ?_ ?_)⟩
        all_goals (repeat' (first | exact True.intro | exact rfl | refine And.intro ?_ ?_))
        · show PV.row 0 0 _ = PV.row 0 0 _
          rw [hs]
        · rw [hs]
      · have q1 : p x = false := by simpa using q1
        rw [q1] at hs
        simp only [Bool.not_false, cond_true] at hs
        have hs' : ((xs.take (k + 1)).filter fun x => !p x).length = ((xs.take k).filter fun x => !p x).length + 1 := by rw [hs]; simp
        refine ⟨_, _, c103 x.span.lo (by omega) _, True.intro, ?_⟩
        conv => whnf
        refine ⟨_, _, c103 x.span.hi (by omega) _, True.intro, ?_⟩
        conv => whnf
        refine ⟨fun y hy => by simp at hy; subst hy; rfl, ?_⟩
        conv => whnf
        refine ⟨by rw [List.length_map], by (first | omega | (dsimp only; omega) | (simp; done) | (simp; omega)), ?_⟩
        conv => whnf
        intro z hz
        conv => whnf
        rw [wrap_small (by omega) (by omega)] at hz
        subst hz
        refine ⟨k + 1, [2], by omega, by omega, And.intro rfl (And.intro ?_ ?_)⟩
        all_goals (repeat' (first | exact True.intro | exact rfl | refine And.intro ?_ ?_))
        · show PV.row 0 2 _ = PV.row 0 2 _
          rw [hs']; rfl
        · rw [hs, List.map_append]; rfl
    · conv => whnf
      have hk' : k = xs.length := by simp at h_; omega
      subst hk'
      rw [List.take_length]
      exact ⟨[0], rfl, And.intro rfl rfl, And.intro (And.intro rfl (And.intro rfl rfl)) True.intro⟩
theorem l61 (p : Lock → Bool) (l0 i0 : Nat) (xs : List Lock) (H : List (List Blk)) (hlen : xs.length < 1000000) (hsm : smallL xs) (hp : ∀ x, x ∈ xs → ∀ T, CallEq X (T :: H) 61 [pLock x, .ptr (l0 + 2) i0 0] (.d (.bool (p x))) []) :
    CallEq X H 62 [.d (encLocks xs), .func (.func 61) [] [.ptr (l0 + 1) i0 0]] (.row 0 0 (xs.filter fun x => !p x).length) [⟨29, 7, (xs.filter fun x => !p x).map cLock⟩] := by
  refine callEq_of_body X_ok rfl Try.func62 rfl ?_
  conv => whnf
  refine loopV_of (fun k : Nat => ⟨[.any, .func (.func 61) [] [.ptr (l0 + 1) i0 0], .any, .any, .row 0 0 ((xs.take k).filter fun x => !p x).length, .any, .any, .d (encLocks xs), .d (.int .i64 (xs.map cLock).length), .d (.int .i64 k), .any, .any, .any, .any, .any, .any, .any, .any, .any, .any, .any, .any, .any, .any, .any, .any, .any, .any, .any, .any, .any, .any, .any, .any, .any], [.row 29 7 (((xs.take k).filter fun x => !p x).map cLock)]⟩)
    (fun k => k ≤ xs.length) (fun k => xs.length - k) 0 [0] (Nat.zero_le _) ?_ ?_
  · refine And.intro rfl (And.intro ?_ ?_)
    all_goals (repeat' (first | exact True.intro | exact rfl | refine And.intro ?_ ?_))
  · intro k hk
    conv => whnf
    refine And.intro (fun h_ => ?_) (fun h_ => ?_)
    · conv => whnf
      have hk' : k < xs.length := by simpa using h_
      obtain ⟨x, hx⟩ : ∃ x, xs[k]? = some x := ⟨_, List.getElem?_eq_getElem hk'⟩
      have hs := filter_snoc (p := fun x => !p x) hx
      have hle := filter_le (p := fun x => !p x) (l := xs) k
      obtain ⟨m1, m2⟩ := hsm x (List.mem_of_getElem? hx)
      refine ⟨by omega, cLock x, by simp [hx], rfl, ?_⟩
      conv => whnf
      refine ⟨_, _, hp x (List.mem_of_getElem? hx) _, True.intro, ?_⟩
      conv => whnf
      refine And.intro (fun q1 => ?_) (fun q1 => ?_) <;> (conv => whnf)
      rotate_left
      · have q1 : p x = true := by simpa using q1
        rw [q1] at hs
        simp only [Bool.not_true, cond_false, List.append_nil] at hs
        intro z hz
        conv => whnf
        rw [wrap_small (by omega) (by omega)] at hz
        subst hz
        refine ⟨k + 1, [0], by omega, by omega, And.intro rfl (And.intro ?_ ?_)⟩
        all_goals (repeat' (first | exact True.intro | exact rfl | refine And.intro ?_ ?_))
        · show PV.row 0 0 _ = PV.row 0 0 _
          rw [hs]
        · rw [hs]
      · have q1 : p x = false := by simpa using q1
        rw [q1] at hs
        simp only [Bool.not_false, cond_true] at hs
        have hs' : ((xs.take (k + 1)).filter fun x => !p x).length = ((xs.take k).filter fun x => !p x).length + 1 := by rw [hs]; simp
        refine ⟨_, _, c103 x.span.lo (by omega) _, True.intro, ?_⟩
        conv => whnf
        refine ⟨_, _, c103 x.span.hi (by omega) _, True.intro, ?_⟩
        conv => whnf
        refine ⟨fun y hy => by simp at hy; subst hy; rfl, ?_⟩
        conv => whnf
        refine ⟨by rw [List.length_map], by (first | omega | (dsimp only; omega) | (simp; done) | (simp; omega)), ?_⟩
        conv => whnf
        intro z hz
        conv => whnf
        rw [wrap_small (by omega) (by omega)] at hz
        subst hz
        refine ⟨k + 1, [2], by omega, by omega, And.intro rfl (And.intro ?_ ?_)⟩
        all_goals (repeat' (first | exact True.intro | exact rfl | refine And.intro ?_ ?_))
        · show PV.row 0 2 _ = PV.row 0 2 _
          rw [hs']; rfl
        · rw [hs, List.map_append]; rfl
    · conv => whnf
      have hk' : k = xs.length := by simp at h_; omega
      subst hk'
      rw [List.take_length]
      exact ⟨[0], rfl, And.intro rfl rfl, And.intro (And.intro rfl (And.intro rfl rfl)) True.intro⟩
end Go.Proofs.Ve

/- Locks of one's own; one more held; the least mode of two. -/
set_option maxRecDepth 100000
set_option linter.all false
namespace Go.Proofs.Ve
open Go
theorem filter_all {α : Type} (l : List α) : (l.filter fun _ => !false) = l := by simp
def rLocks (l : List Lock) : RowB := ⟨29, 7, l.map cLock⟩
theorem l102' (xs : List Lock) (H : List (List Blk)) (hlen : xs.length < 1000000) (hsm : smallL xs) : CallEq X H 62 [.d (encLocks xs), .func (.func 102) [] []] (.row 0 0 xs.length) [rLocks xs] := by
  have h := l102 (fun _ => false) xs H hlen hsm (fun x _ T => c102 x _)
  rw [filter_all] at h; exact h
theorem l69' (xs : List Lock) (H : List (List Blk)) (hlen : xs.length < 1000000) (hsm : smallL xs) : CallEq X H 62 [.d (encLocks xs), .func (.func 69) [] []] (.row 0 0 xs.length) [rLocks xs] := by
  have h := l69 (fun _ => false) xs H hlen hsm (fun x _ T => c69 x _)
  rw [filter_all] at h; exact h
def rowsL (l : Locks) : PV := .agg [.row 0 0 l.held.length, .row 0 1 l.queue.length]
def smallLs (l : Locks) : Prop := l.held.length < 100000 ∧ l.queue.length < 100000 ∧ smallL l.held ∧ smallL l.queue
theorem c60 (l : Locks) (hs : smallLs l) (H : List (List Blk)) : CallEq X H 60 [pLocks l] (rowsL l) [rLocks l.held, rLocks l.queue] := by
  obtain ⟨h1, h2, h3, h4⟩ := hs
  refine callEq_of_body X_ok rfl Try.func60 rfl ?_
  conv => whnf
  refine ⟨_, _, l102' l.held _ (by omega) h3, True.intro, ?_⟩
  conv => whnf
  refine ⟨_, _, l102' l.queue _ (by omega) h4, True.intro, ?_⟩
  conv => whnf
  exact ⟨[2, 3], rfl, (by (repeat' (first | exact True.intro | exact rfl | refine And.intro ?_ ?_))), And.intro (And.intro rfl (And.intro rfl rfl)) (And.intro (And.intro rfl (And.intro rfl rfl)) True.intro)⟩
theorem fzL (l : Locks) : fz [rLocks l.held, rLocks l.queue] 2 (rowsL l) = pLocks l := by
  change PV.agg [.d (.sl (List.take l.held.length (l.held.map cLock))), .d (.sl (List.take l.queue.length (l.queue.map cLock)))] = _
  rw [List.take_of_length_le (by simp), List.take_of_length_le (by simp)]; rfl
theorem c60f (l : Locks) (hs : smallLs l) (H : List (List Blk)) : CallEq X H 60 [pLocks l] (pLocks l) [] := (c60 l hs H).freeze 2 (fzL l)
/-! ### one more held -/
def holdL (l : List Lock) (x : Lock) : List Lock := if lWhole l x ≥ 0 then l.set (lWhole l x).toNat x else l ++ [x]
theorem idxOf_lt {α : Type} (p : α → Bool) : ∀ (l : List α) (k : Int), 0 ≤ k → idxOf p l k ≥ 0 → k ≤ idxOf p l k ∧ ∃ y, l[(idxOf p l k - k).toNat]? = some y ∧ p y = true
  | [], k, hk, h => by simp [idxOf] at h
  | x :: l, k, hk, h => by
    cases hx : p x with
    | true => rw [idxOf, hx]; exact ⟨by simp, x, by simp, hx⟩
    | false =>
      rw [idxOf, hx] at h ⊢
      obtain ⟨h1, y, h2, h3⟩ := idxOf_lt p l (k + 1) (by omega) h
      refine ⟨by simp; omega, y, ?_, h3⟩
      simp only [cond_false]
      rw [show (idxOf p l (k + 1) - k).toNat = (idxOf p l (k + 1) - (k + 1)).toNat + 1 by omega]
      simpa using h2
theorem whole_at {l : List Lock} {x : Lock} (h : lWhole l x ≥ 0) : ∃ y, l[(lWhole l x).toNat]? = some y := by
  obtain ⟨_, y, h1, _⟩ := idxOf_lt (lWholeP x) l 0 (by omega) h
  exact ⟨y, by simpa [lWhole] using h1⟩
theorem c63 (l : List Lock) (x : Lock) (hl : l.length < 1000000) (H : List (List Blk)) : CallEqG X H 63 [rLocks l] [.row 0 0 l.length, pLock x] [none] (.row 0 0 (holdL l x).length) [rLocks (holdL l x)] := by
  refine callEqG_of_body (G := [rLocks l]) X_ok rfl Try.func63 rfl ?_
  conv => whnf
  have hc := fun H => c67 l x hl H
  rw [show encLocks l = .sl (List.take l.length (l.map cLock)) by rw [List.take_of_length_le (by simp)]; rfl] at hc
  refine ⟨_, _, hc _, And.intro rfl flat_nil, ?_⟩
  conv => whnf
  refine And.intro (fun q1 => ?_) (fun q1 => ?_) <;> (conv => whnf)
  · have q1 : lWhole l x ≥ 0 := by simpa using q1
    have hh : holdL l x = l.set (lWhole l x).toNat x := by unfold holdL; rw [if_pos q1]
    obtain ⟨y, hy⟩ := whole_at q1
    have hlt := (List.getElem?_eq_some_iff.1 hy).1
    refine ⟨q1, by omega, ?_⟩
    conv => whnf
    refine ⟨cLock y, by show (l.map cLock)[_]? = _; rw [List.getElem?_map, hy]; rfl, ?_⟩
    conv => whnf
    rw [hh]
    refine ⟨[0], rfl, And.intro rfl ?_, And.intro (And.intro rfl (And.intro rfl ?_)) True.intro⟩
    · show PV.row 0 0 _ = PV.row 0 0 _
      rw [List.length_set]
    · show _ = (rLocks (l.set _ x)).xs
      unfold rLocks; dsimp only; rw [List.map_set]; rfl
  · have q1 : ¬ lWhole l x ≥ 0 := by simpa using q1
    have hh : holdL l x = l ++ [x] := by unfold holdL; rw [if_neg q1]
    refine ⟨fun y hy => by simp at hy; subst hy; rfl, ?_⟩
    conv => whnf
    refine ⟨(List.length_map _).symm, by (first | omega | (dsimp only; omega) | (simp; done) | (simp; omega)), ?_⟩
    conv => whnf
    rw [hh]
    refine ⟨[2], rfl, And.intro rfl ?_, And.intro (And.intro rfl (And.intro rfl ?_)) True.intro⟩
    · show PV.row 0 2 _ = PV.row 0 2 _
      simp
    · show _ = (rLocks (l ++ [x])).xs
      unfold rLocks; dsimp only; rw [List.map_append]; rfl
/-! ### the least mode of two -/
def mJoinF (a b : Int) : List Int → Int
  | [] => 0
  | m :: ms => bif mCovers m a && mCovers m b then m else mJoinF a b ms
def mJoin (a b : Int) : Int := mJoinF a b [1, 2, 3, 4, 5]
theorem c68 (a b : Int) (H : List (List Blk)) : CallEq X H 68 [.d (.int .i64 a), .d (.int .i64 b)] (.d (.int .i64 (mJoin a b))) [] := by
  refine callEq_of_body X_ok rfl Try.func68 rfl ?_
  conv => whnf
  refine loopV_of (fun k : Nat => ⟨[.d (.int .i64 a), .d (.int .i64 b), .any, .any, .any, .any, .any, .d (.int .i64 k), .any, .any, .any, .any, .any, .any, .any, .any, .any, .any, .any, .any, .any, .any], []⟩)
    (fun k => k ≤ 5 ∧ mJoin a b = mJoinF a b (([1, 2, 3, 4, 5] : List Int).drop k)) (fun k => 5 - k) 0 [] ⟨Nat.zero_le _, rfl⟩ ?_ ?_
  · refine And.intro rfl (And.intro ?_ ?_)
    all_goals (repeat' (first | exact True.intro | exact rfl | refine And.intro ?_ ?_))
  · rintro k ⟨hk, hidx⟩
    conv => whnf
    refine And.intro (fun h_ => ?_) (fun h_ => ?_)
    · conv => whnf
      have hk' : k < 5 := by simp at h_; omega
      have hst : mJoinF a b (([1, 2, 3, 4, 5] : List Int).drop k) = bif mCovers ((k : Int) + 1) a && mCovers ((k : Int) + 1) b then (k : Int) + 1 else mJoinF a b (([1, 2, 3, 4, 5] : List Int).drop (k + 1)) := by
        match k, hk' with
        | 0, _ | 1, _ | 2, _ | 3, _ | 4, _ => rfl
      intro z hz
      conv => whnf
      rw [wrap_small (by omega) (by omega)] at hz
      subst hz
      have next : (mCovers ((k : Int) + 1) a && mCovers ((k : Int) + 1) b) = false → mJoin a b = mJoinF a b (([1, 2, 3, 4, 5] : List Int).drop (k + 1)) := fun h => by rw [hidx, hst, h]; rfl
      refine ⟨_, _, c87 _ _ _, True.intro, ?_⟩
      conv => whnf
      refine And.intro (fun q1 => ?_) (fun q1 => ?_) <;> (conv => whnf)
      · refine ⟨_, _, c87 _ _ _, True.intro, ?_⟩
        conv => whnf
        refine And.intro (fun q2 => ?_) (fun q2 => ?_) <;> (conv => whnf)
        · refine ⟨[], rfl, ?_, True.intro⟩
          show DV.int .i64 _ = .int .i64 (mJoin a b)
          rw [hidx, hst, q1, q2]; rfl
        · intro z hz
          conv => whnf
          rw [wrap_small (by omega) (by omega)] at hz
          subst hz
          refine ⟨k + 1, [], ⟨by omega, next (by rw [q1, q2]; rfl)⟩, by omega, And.intro rfl (And.intro ?_ ?_)⟩
          all_goals (repeat' (first | exact True.intro | exact rfl | refine And.intro ?_ ?_))
      · intro z hz
        conv => whnf
        rw [wrap_small (by omega) (by omega)] at hz
        subst hz
        refine ⟨k + 1, [], ⟨by omega, next (by rw [q1]; rfl)⟩, by omega, And.intro rfl (And.intro ?_ ?_)⟩
        all_goals (repeat' (first | exact True.intro | exact rfl | refine And.intro ?_ ?_))
    · conv => whnf
      have hk' : k = 5 := by simp at h_; omega
      refine ⟨[], rfl, ?_, True.intro⟩
      show DV.int .i64 0 = .int .i64 (mJoin a b)
      rw [hidx, hk']; rfl
end Go.Proofs.Ve

/- Ask: locks with one more. -/
set_option maxRecDepth 100000
set_option linter.all false
namespace Go.Proofs.Ve
open Go
theorem c65 (x y : Lock) (T1 T2 : List Blk) (B0 : Blk) (rest : List Blk) (H : List (List Blk)) : CallEq X (T1 :: T2 :: (B0 :: bLock x :: rest) :: H) 65 [pLock y, .ptr 3 1 0] (.d (.bool (lServes y x))) [] := by
  refine callEq_of_body X_ok rfl Try.func65 rfl ?_
  conv => whnf
  repeat' (first
    | (refine And.intro (fun h_ => ?_) (fun h_ => ?_) <;> (conv => whnf))
    | (refine ⟨_, _, c66 y x _, (by first | exact True.intro | exact And.intro rfl flat_nil), ?_⟩; conv => whnf)
    | (intro z_ hz_; conv => whnf)
    | (refine ⟨[], rfl, ?_, True.intro⟩; (conv => whnf); (first | done | (simp_all only [refP, Bool.not_true, Bool.not_false, Bool.true_and, Bool.false_and, Bool.and_true, Bool.and_false, Bool.true_or, Bool.false_or, Bool.or_true, Bool.or_false, Bool.not_not, Bool.not_eq_true', Bool.not_eq_false', if_true, if_false, Bool.false_eq_true, Bool.true_eq_false, List.length_map]; done)))
    | fail)
theorem i65 (p : Lock → Bool) (l0 i0 : Nat) (xs : List Lock) (H : List (List Blk)) (hlen : xs.length < 1000000) (hp : ∀ x, x ∈ xs → ∀ T, CallEq X (T :: H) 65 [pLock x, .ptr (l0 + 2) i0 0] (.d (.bool (p x))) []) :
    CallEq X H 82 [.d (.sl (xs.map cLock)), .func (.func 65) [] [.ptr (l0 + 1) i0 0]] (.d (.int .i64 (idxOf p xs 0))) [] := by
  refine callEq_of_body X_ok rfl Try.func82 rfl ?_
  conv => whnf
  refine loopV_of (fun k : Nat => ⟨[.d (.sl (xs.map cLock)), .func (.func 65) [] [.ptr (l0 + 1) i0 0], .any, .any, .any, .any, .any, .d (.int .i64 (xs.map cLock).length), .d (.int .i64 k), .any, .any, .any, .any, .any, .any, .any, .any, .any, .any], []⟩) (fun k => k ≤ xs.length ∧ idxOf p xs 0 = idxOf p (xs.drop k) k) (fun k => xs.length - k) 0 [] ⟨Nat.zero_le _, by simp⟩ ?_ ?_
  · refine And.intro rfl (And.intro ?_ True.intro)
    repeat' (first | exact True.intro | exact rfl | refine And.intro ?_ ?_)
  · rintro k ⟨hk, hidx⟩
    conv => whnf
    refine And.intro (fun h_ => ?_) (fun h_ => ?_)
    · conv => whnf
      have hk' : k < xs.length := by simpa using h_
      obtain ⟨x, hx⟩ : ∃ x, xs[k]? = some x := ⟨_, List.getElem?_eq_getElem hk'⟩
      have hst := idxOf_step (p := p) hx
      refine ⟨by omega, cLock x, by simp [hx], rfl, ?_⟩
      conv => whnf
      refine ⟨_, _, hp x (List.mem_of_getElem? hx) _, True.intro, ?_⟩
      conv => whnf
      refine And.intro (fun h1 => ?_) (fun h1 => ?_)
      · conv => whnf
        refine ⟨[], rfl, ?_, True.intro⟩
        show DV.int .i64 (k : Int) = .int .i64 (idxOf p xs 0)
        rw [hidx, hst, h1]; rfl
      · conv => whnf
        intro z hz
        conv => whnf
        rw [wrap_small (by omega) (by omega)] at hz
        subst hz
        refine ⟨k + 1, [], ⟨by omega, ?_⟩, by omega, And.intro rfl (And.intro ?_ True.intro)⟩
        · rw [hidx, hst, h1]; rfl
        · repeat' (first | exact True.intro | exact rfl | refine And.intro ?_ ?_)
    · conv => whnf
      have hk' : k = xs.length := by simp at h_; omega
      refine ⟨[], rfl, ?_, True.intro⟩
      show DV.int .i64 (-1) = .int .i64 (idxOf p xs 0)
      rw [hidx, hk', List.drop_length]; rfl
theorem c51e (p : Lock → Bool) (l0 i0 : Nat) (xs : List Lock) (hl : xs.length < 1000000) (H : List (List Blk)) (hp : ∀ x, x ∈ xs → ∀ T T', CallEq X (T :: T' :: H) 65 [pLock x, .ptr (l0 + 3) i0 0] (.d (.bool (p x))) []) : CallEq X H 51 [.d (encLocks xs), .func (.func 65) [] [.ptr (l0 + 1) i0 0]] (.d (.bool (xs.any p))) [] := by
  rw [← idxOf_ge _ xs 0 (Int.le_refl _)]
  refine callEq_of_body X_ok rfl Try.func51 rfl ?_
  conv => whnf
  repeat' (first
    | (refine And.intro (fun h_ => ?_) (fun h_ => ?_) <;> (conv => whnf))
    | (refine ⟨_, _, i65 p _ _ xs _ hl (fun x hx T => hp x hx T _), (by first | exact True.intro | exact And.intro rfl flat_nil), ?_⟩; conv => whnf)
    | (intro z_ hz_; conv => whnf)
    | (refine ⟨[], rfl, ?_, True.intro⟩; (conv => whnf); (first | done | (simp_all only [refP, Bool.not_true, Bool.not_false, Bool.true_and, Bool.false_and, Bool.and_true, Bool.and_false, Bool.true_or, Bool.false_or, Bool.or_true, Bool.or_false, Bool.not_not, Bool.not_eq_true', Bool.not_eq_false', if_true, if_false, Bool.false_eq_true, Bool.true_eq_false, List.length_map]; done)))
    | fail)
def atMode (l : List Lock) (k : Nat) : Int := match l[k]? with | some y => y.mode | none => 0
def lJoined (l : Locks) (x : Lock) : Lock := if lWhole l.held x ≥ 0 then { x with mode := mJoin x.mode (atMode l.held (lWhole l.held x).toNat) } else x
def lAsk (l : Locks) (x : Lock) : Locks × Int :=
  if !lCheck l || (!lMay x || lWaits l x.owner) then (l, 1)
  else if l.held.any (fun h => lServes h x) then (l, 0)
  else if decide ((l.held.length : Int) + l.queue.length ≥ 40) then (l, 111)
  else if decide (((lAhead l (lJoined l x) l.queue.length).length : Int) > 0) then (⟨l.held, l.queue ++ [lJoined l x]⟩, 110)
  else (⟨holdL l.held (lJoined l x), l.queue⟩, 0)
def pAsk (r : Locks × Int) : PV := .tuple [rowsL r.1, .d (.int .i64 r.2)]
theorem c26r (l : Locks) (x : Lock) (hs : smallLs l) (hx : smallX x) (H : List (List Blk)) : CallEq X H 26 [pLocks l, pLock x] (pAsk (lAsk l x)) [rLocks (lAsk l x).1.held, rLocks (lAsk l x).1.queue] := by
  have hs0 := hs
  obtain ⟨h1, h2, h3, h4⟩ := hs
  refine callEq_of_body X_ok rfl Try.func26 rfl ?_
  conv => whnf
  refine ⟨_, _, c60 l hs0 _, True.intro, ?_⟩
  conv => whnf
  refine ⟨_, _, c19 l h1 h2 _, True.intro, ?_⟩
  conv => whnf
  have arg : (!lCheck l || (!lMay x || lWaits l x.owner)) = true → lAsk l x = (l, 1) := fun h => by unfold lAsk; rw [h]; rfl
  refine And.intro (fun q1 => ?_) (fun q1 => ?_) <;> (conv => whnf)
  rotate_left
  · have q1 : lCheck l = false := by simpa using q1
    rw [arg (by rw [q1]; rfl)]
    exact ⟨[3, 4], rfl, (by (repeat' (first | exact True.intro | exact rfl | refine And.intro ?_ ?_))), And.intro (And.intro rfl (And.intro rfl rfl)) (And.intro (And.intro rfl (And.intro rfl rfl)) True.intro)⟩
  have q1 : lCheck l = true := by simpa using q1
  refine ⟨_, _, c50 x _, True.intro, ?_⟩
  conv => whnf
  refine And.intro (fun q2 => ?_) (fun q2 => ?_) <;> (conv => whnf)
  rotate_left
  · have q2 : lMay x = false := by simpa using q2
    rw [arg (by rw [q2]; simp)]
    exact ⟨[3, 4], rfl, (by (repeat' (first | exact True.intro | exact rfl | refine And.intro ?_ ?_))), And.intro (And.intro rfl (And.intro rfl rfl)) (And.intro (And.intro rfl (And.intro rfl rfl)) True.intro)⟩
  have q2 : lMay x = true := by simpa using q2
  refine ⟨_, _, c23 l x.owner h1 h2 _, True.intro, ?_⟩
  conv => whnf
  refine And.intro (fun q3 => ?_) (fun q3 => ?_) <;> (conv => whnf)
  · have q3 : lWaits l x.owner = true := by simpa using q3
    rw [arg (by rw [q3]; simp)]
    exact ⟨[3, 4], rfl, (by (repeat' (first | exact True.intro | exact rfl | refine And.intro ?_ ?_))), And.intro (And.intro rfl (And.intro rfl rfl)) (And.intro (And.intro rfl (And.intro rfl rfl)) True.intro)⟩
  have q3 : lWaits l x.owner = false := by simpa using q3
  have k1 : lAsk l x = if l.held.any (fun h => lServes h x) then (l, 0)
      else if decide ((l.held.length : Int) + l.queue.length ≥ 40) then (l, 111)
      else if decide (((lAhead l (lJoined l x) l.queue.length).length : Int) > 0) then (⟨l.held, l.queue ++ [lJoined l x]⟩, 110)
      else (⟨holdL l.held (lJoined l x), l.queue⟩, 0) := by unfold lAsk; rw [q1, q2, q3]; rfl
  refine ⟨_, _, c51e (fun h => lServes h x) 0 1 l.held (by omega) _ (fun y _ T T' => c65 x y T T' _ _ _), True.intro, ?_⟩
  conv => whnf
  refine And.intro (fun q4 => ?_) (fun q4 => ?_) <;> (conv => whnf)
  · rw [k1, if_pos q4]
    exact ⟨[3, 4], rfl, (by (repeat' (first | exact True.intro | exact rfl | refine And.intro ?_ ?_))), And.intro (And.intro rfl (And.intro rfl rfl)) (And.intro (And.intro rfl (And.intro rfl rfl)) True.intro)⟩
  rw [if_neg (by simpa using q4)] at k1
  refine ⟨_, _, c67 l.held x (by omega) _, True.intro, ?_⟩
  conv => whnf
  -- behind the join
  refine And.intro (fun q5 => ?_) (fun q5 => ?_) <;> (conv => whnf)
  · have q5 : lWhole l.held x ≥ 0 := by simpa using q5
    obtain ⟨y, hy⟩ := whole_at q5
    refine ⟨q5, cLock y, by rw [List.getElem?_map, hy]; rfl, rfl, ?_⟩
    conv => whnf
    refine ⟨_, _, c68 _ _ _, True.intro, ?_⟩
    conv => whnf
    have ej : lJoined l x = (⟨x.owner, x.whole, x.span, mJoin x.mode y.mode⟩ : Lock) := by unfold lJoined atMode; rw [if_pos q5, hy]
    rw [ej] at k1
    refine ⟨_, _, l69' [(⟨x.owner, x.whole, x.span, mJoin x.mode y.mode⟩ : Lock)] _ (by simp) (fun y hy => by simp at hy; subst hy; exact hx), True.intro, ?_⟩
    conv => whnf
    refine ⟨by decide, by (first | omega | (dsimp only; omega) | (simp; done) | (simp; omega)), cLock (⟨x.owner, x.whole, x.span, mJoin x.mode y.mode⟩ : Lock), rfl, ?_⟩
    conv => whnf
    intro z hz
    conv => whnf
    rw [wrap_small (by (first | omega | (dsimp only; omega) | (simp; done) | (simp; omega))) (by (first | omega | (dsimp only; omega) | (simp; done) | (simp; omega))), List.length_map, List.length_map] at hz
    subst hz
    refine And.intro (fun q6 => ?_) (fun q6 => ?_) <;> (conv => whnf)
    · rw [k1, if_pos q6]
      exact ⟨[3, 4], rfl, (by (repeat' (first | exact True.intro | exact rfl | refine And.intro ?_ ?_))), And.intro (And.intro rfl (And.intro rfl rfl)) (And.intro (And.intro rfl (And.intro rfl rfl)) True.intro)⟩
    rw [if_neg (by simpa using q6)] at k1
    have hb : l.held.length + l.queue.length < 40 := by simp at q6; omega
    have hc := fun H => c45 l (⟨x.owner, x.whole, x.span, mJoin x.mode y.mode⟩ : Lock) l.queue.length (Nat.le_refl _) h1 h2 H
    rw [show ((l.queue.length : Nat) : Int) = ((l.queue.map cLock).length : Int) by simp] at hc
    refine ⟨_, _, hc _, True.intro, ?_⟩
    conv => whnf
    have e0 : (((lAhead l (⟨x.owner, x.whole, x.span, mJoin x.mode y.mode⟩ : Lock) l.queue.length).map fun x => [DV.int .i64 x]).length : Int) = ((lAhead l (⟨x.owner, x.whole, x.span, mJoin x.mode y.mode⟩ : Lock) l.queue.length).length : Int) := by simp
    refine And.intro (fun q7 => ?_) (fun q7 => ?_) <;> (conv => whnf)
    · have q7 : decide ((((lAhead l (⟨x.owner, x.whole, x.span, mJoin x.mode y.mode⟩ : Lock) l.queue.length).map fun x => [DV.int .i64 x]).length : Int) > 0) = true := q7
      rw [e0] at q7
      rw [k1, if_pos q7]
      refine ⟨fun y hy => by simp at hy; subst hy; rfl, ?_⟩
      conv => whnf
      refine ⟨(List.length_map _).symm, by (first | omega | (dsimp only; omega) | (simp; done) | (simp; omega)), ?_⟩
      conv => whnf
      refine ⟨[3, 7], rfl, ?_, And.intro (And.intro rfl (And.intro rfl rfl)) (And.intro (And.intro rfl (And.intro rfl ?_)) True.intro)⟩
      · (repeat' (first | exact True.intro | exact rfl | refine And.intro ?_ ?_))
        show PV.row 0 7 (_ + _) = PV.row 0 7 (List.length (_ ++ _))
        rw [List.length_append]; rfl
      · show _ = List.map cLock (_ ++ _)
        rw [List.map_append]; rfl
    · have q7 : decide ((((lAhead l (⟨x.owner, x.whole, x.span, mJoin x.mode y.mode⟩ : Lock) l.queue.length).map fun x => [DV.int .i64 x]).length : Int) > 0) = false := q7
      rw [e0] at q7
      rw [k1, if_neg (by simpa using q7)]
      refine ⟨_, _, _, c63 l.held (⟨x.owner, x.whole, x.span, mJoin x.mode y.mode⟩ : Lock) (by omega) _, ?_⟩
      conv => whnf
      exact ⟨[7, 4], rfl, (by (repeat' (first | exact True.intro | exact rfl | refine And.intro ?_ ?_))), And.intro (And.intro rfl (And.intro rfl rfl)) (And.intro (And.intro rfl (And.intro rfl rfl)) True.intro)⟩
  · have q5 : ¬ lWhole l.held x ≥ 0 := by simpa using q5
    have ej : lJoined l x = x := by unfold lJoined; rw [if_neg q5]
    rw [ej] at k1
    refine ⟨_, _, l69' [x] _ (by simp) (fun y hy => by simp at hy; subst hy; exact hx), True.intro, ?_⟩
    conv => whnf
    refine ⟨by decide, by (first | omega | (dsimp only; omega) | (simp; done) | (simp; omega)), cLock x, rfl, ?_⟩
    conv => whnf
    intro z hz
    conv => whnf
    rw [wrap_small (by (first | omega | (dsimp only; omega) | (simp; done) | (simp; omega))) (by (first | omega | (dsimp only; omega) | (simp; done) | (simp; omega))), List.length_map, List.length_map] at hz
    subst hz
    refine And.intro (fun q6 => ?_) (fun q6 => ?_) <;> (conv => whnf)
    · rw [k1, if_pos q6]
      exact ⟨[3, 4], rfl, (by (repeat' (first | exact True.intro | exact rfl | refine And.intro ?_ ?_))), And.intro (And.intro rfl (And.intro rfl rfl)) (And.intro (And.intro rfl (And.intro rfl rfl)) True.intro)⟩
    rw [if_neg (by simpa using q6)] at k1
    have hb : l.held.length + l.queue.length < 40 := by simp at q6; omega
    have hc := fun H => c45 l x l.queue.length (Nat.le_refl _) h1 h2 H
    rw [show ((l.queue.length : Nat) : Int) = ((l.queue.map cLock).length : Int) by simp] at hc
    refine ⟨_, _, hc _, True.intro, ?_⟩
    conv => whnf
    have e0 : (((lAhead l x l.queue.length).map fun x => [DV.int .i64 x]).length : Int) = ((lAhead l x l.queue.length).length : Int) := by simp
    refine And.intro (fun q7 => ?_) (fun q7 => ?_) <;> (conv => whnf)
    · have q7 : decide ((((lAhead l x l.queue.length).map fun x => [DV.int .i64 x]).length : Int) > 0) = true := q7
      rw [e0] at q7
      rw [k1, if_pos q7]
      refine ⟨fun y hy => by simp at hy; subst hy; rfl, ?_⟩
      conv => whnf
      refine ⟨(List.length_map _).symm, by (first | omega | (dsimp only; omega) | (simp; done) | (simp; omega)), ?_⟩
      conv => whnf
      refine ⟨[3, 7], rfl, ?_, And.intro (And.intro rfl (And.intro rfl rfl)) (And.intro (And.intro rfl (And.intro rfl ?_)) True.intro)⟩
      · (repeat' (first | exact True.intro | exact rfl | refine And.intro ?_ ?_))
        show PV.row 0 7 (_ + _) = PV.row 0 7 (List.length (_ ++ _))
        rw [List.length_append]; rfl
      · show _ = List.map cLock (_ ++ _)
        rw [List.map_append]; rfl
    · have q7 : decide ((((lAhead l x l.queue.length).map fun x => [DV.int .i64 x]).length : Int) > 0) = false := q7
      rw [e0] at q7
      rw [k1, if_neg (by simpa using q7)]
      refine ⟨_, _, _, c63 l.held x (by omega) _, ?_⟩
      conv => whnf
      exact ⟨[7, 4], rfl, (by (repeat' (first | exact True.intro | exact rfl | refine And.intro ?_ ?_))), And.intro (And.intro rfl (And.intro rfl rfl)) (And.intro (And.intro rfl (And.intro rfl rfl)) True.intro)⟩
def pAskF (r : Locks × Int) : PV := .tuple [pLocks r.1, .d (.int .i64 r.2)]
theorem c26 (l : Locks) (x : Lock) (hs : smallLs l) (hx : smallX x) (H : List (List Blk)) : CallEq X H 26 [pLocks l, pLock x] (pAskF (lAsk l x)) [] :=
  (c26r l x hs hx H).freeze 3 (by
    change PV.tuple [fz _ 2 (rowsL (lAsk l x).1), .d _] = _
    rw [fzL]; rfl)
end Go.Proofs.Ve

/- Drop: locks without somebody's. -/
set_option maxRecDepth 100000
set_option linter.all false
namespace Go.Proofs.Ve
open Go
def dropStep (s : Locks × List Int) (x : Lock) : Locks × List Int :=
  if decide (((lAhead s.1 x s.1.queue.length).length : Int) > 0) then (⟨s.1.held, s.1.queue ++ [x]⟩, s.2) else (⟨holdL s.1.held x, s.1.queue⟩, s.2 ++ [x.owner])
def rid (o : Int) (l : List Lock) : List Lock := l.filter fun x => !(x.owner == o)
def dropAll (l : Locks) (o : Int) : Locks × List Int := (rid o l.queue).foldl dropStep (⟨rid o l.held, []⟩, [])
def lDrop (l : Locks) (o : Int) : Locks × List Int :=
  if !lCheck l || (decide (o < 0) || decide (o ≥ 4)) then (l, []) else ((dropAll l o).1, sortI (dropAll l o).2)
theorem fold_snoc {α β : Type} {f : β → α → β} {l : List α} {k : Nat} {x : α} {b : β} (h : l[k]? = some x) : (l.take (k + 1)).foldl f b = f ((l.take k).foldl f b) x := by
  rw [take_snoc' h, List.foldl_append]; rfl
theorem hold_len (l : List Lock) (x : Lock) : (holdL l x).length ≤ l.length + 1 := by
  unfold holdL; split <;> simp
theorem dropStep_len (s : Locks × List Int) (x : Lock) : (dropStep s x).1.held.length ≤ s.1.held.length + 1 ∧ (dropStep s x).1.queue.length ≤ s.1.queue.length + 1 ∧ (dropStep s x).2.length ≤ s.2.length + 1 := by
  unfold dropStep
  have := hold_len s.1.held x
  split <;> simp <;> omega
theorem fold_len (b : Locks × List Int) : ∀ (l : List Lock), (l.foldl dropStep b).1.held.length ≤ b.1.held.length + l.length ∧ (l.foldl dropStep b).1.queue.length ≤ b.1.queue.length + l.length ∧ (l.foldl dropStep b).2.length ≤ b.2.length + l.length := by
  intro l
  induction l generalizing b with
  | nil => simp
  | cons x l ih =>
    have h1 := ih (dropStep b x)
    have h2 := dropStep_len b x
    simp only [List.foldl_cons, List.length_cons]
    omega
theorem rid_len (o : Int) (l : List Lock) : (rid o l).length ≤ l.length := List.length_filter_le _ _
theorem flat_rowI (l : List Int) (e sz : Nat) : FlatN [⟨e, sz, rowI l⟩] := by
  intro r hr x hx y hy
  simp only [List.mem_singleton] at hr
  subst hr
  simp only [rowI, List.mem_map] at hx
  obtain ⟨n, _, rfl⟩ := hx
  simp only [List.mem_singleton] at hy
  subst hy; rfl
def tr25 : Tr := (.alt 0 (.alt 4 (.alt 5 (.alt 1 (.alt 2 (.alt 3 (.alt 9 (.alt 6 (.alt 7 (.alt 8 (.alt 10 (.alt 11 .fin .none) .none) .none) .none) .none) .none) (.alt 6 (.alt 3 (.alt 9 (.alt 7 (.alt 8 (.alt 10 (.alt 11 .fin .none) .none) .none) .none) .none) (.alt 7 (.alt 3 (.alt 9 (.alt 8 (.alt 10 (.alt 11 .fin .none) .none) .none) .none) .none) .none)) .none)) (.alt 6 (.alt 2 (.alt 3 (.alt 9 (.alt 7 (.alt 8 (.alt 10 (.alt 11 .fin .none) .none) .none) .none) .none) (.alt 7 (.alt 3 (.alt 9 (.alt 8 (.alt 10 (.alt 11 .fin .none) .none) .none) .none) .none) .none)) (.alt 7 (.alt 2 (.alt 3 (.alt 9 (.alt 8 (.alt 10 (.alt 11 .fin .none) .none) .none) .none) .none) .none) .none)) .none)) (.alt 2 (.alt 1 (.alt 3 (.alt 9 (.alt 6 (.alt 7 (.alt 8 (.alt 10 (.alt 11 .fin .none) .none) .none) .none) .none) .none) (.alt 6 (.alt 3 (.alt 9 (.alt 7 (.alt 8 (.alt 10 (.alt 11 .fin .none) .none) .none) .none) .none) (.alt 7 (.alt 3 (.alt 9 (.alt 8 (.alt 10 (.alt 11 .fin .none) .none) .none) .none) .none) .none)) .none)) (.alt 6 (.alt 1 (.alt 3 (.alt 9 (.alt 7 (.alt 8 (.alt 10 (.alt 11 .fin .none) .none) .none) .none) .none) (.alt 7 (.alt 3 (.alt 9 (.alt 8 (.alt 10 (.alt 11 .fin .none) .none) .none) .none) .none) .none)) (.alt 7 (.alt 1 (.alt 3 (.alt 9 (.alt 8 (.alt 10 (.alt 11 .fin .none) .none) .none) .none) .none) .none) .none)) .none)) (.alt 6 (.alt 1 (.alt 2 (.alt 3 (.alt 9 (.alt 7 (.alt 8 (.alt 10 (.alt 11 .fin .none) .none) .none) .none) .none) (.alt 7 (.alt 3 (.alt 9 (.alt 8 (.alt 10 (.alt 11 .fin .none) .none) .none) .none) .none) .none)) (.alt 7 (.alt 2 (.alt 3 (.alt 9 (.alt 8 (.alt 10 (.alt 11 .fin .none) .none) .none) .none) .none) .none) .none)) (.alt 2 (.alt 1 (.alt 3 (.alt 9 (.alt 7 (.alt 8 (.alt 10 (.alt 11 .fin .none) .none) .none) .none) .none) (.alt 7 (.alt 3 (.alt 9 (.alt 8 (.alt 10 (.alt 11 .fin .none) .none) .none) .none) .none) .none)) (.alt 7 (.alt 1 (.alt 3 (.alt 9 (.alt 8 (.alt 10 (.alt 11 .fin .none) .none) .none) .none) .none) .none) .none)) (.alt 7 (.alt 1 (.alt 2 (.alt 3 (.alt 9 (.alt 8 (.alt 10 (.alt 11 .fin .none) .none) .none) .none) .none) .none) (.alt 2 (.alt 1 (.alt 3 (.alt 9 (.alt 8 (.alt 10 (.alt 11 .fin .none) .none) .none) .none) .none) .none) .none)) .none))) .none))) .none) .none) .none)
theorem c25r (l : Locks) (o : Int) (hs : smallLs l) (H : List (List Blk)) :
    CallEq X H 25 [pLocks l, .d (.int .i64 o)] (.tuple [rowsL (lDrop l o).1, .row 0 2 (lDrop l o).2.length]) [rLocks (lDrop l o).1.held, rLocks (lDrop l o).1.queue, ⟨3, 1, rowI (lDrop l o).2⟩] := by
  have hs0 := hs
  obtain ⟨h1, h2, h3, h4⟩ := hs
  refine callEq_of_bodyM X_ok (mo := [(11, tr25)]) (by kernel_rfl) Try.func25 rfl ?_
  conv => whnf
  have arg : (!lCheck l || (decide (o < 0) || decide (o ≥ 4))) = true → lDrop l o = (l, []) := fun h => by unfold lDrop; rw [h]; rfl
  refine ⟨_, _, c19 l h1 h2 _, True.intro, ?_⟩
  conv => whnf
  refine And.intro (fun q1 => ?_) (fun q1 => ?_) <;> (conv => whnf)
  rotate_left
  · have q1 : lCheck l = false := by simpa using q1
    rw [arg (by rw [q1]; rfl)]
    refine ⟨_, _, c60 l hs0 _, True.intro, ?_⟩
    conv => whnf
    exact ⟨[3, 4, 100], rfl, (by (repeat' (first | exact True.intro | exact rfl | refine And.intro ?_ ?_))), (by (repeat' (first | exact True.intro | exact rfl | refine And.intro ?_ ?_)))⟩
  have q1 : lCheck l = true := by simpa using q1
  refine And.intro (fun q2 => ?_) (fun q2 => ?_) <;> (conv => whnf)
  rotate_left
  · have q2 : decide (o < 0) = true := q2
    rw [arg (by rw [q2]; simp)]
    refine ⟨_, _, c60 l hs0 _, True.intro, ?_⟩
    conv => whnf
    exact ⟨[3, 4, 100], rfl, (by (repeat' (first | exact True.intro | exact rfl | refine And.intro ?_ ?_))), (by (repeat' (first | exact True.intro | exact rfl | refine And.intro ?_ ?_)))⟩
  refine And.intro (fun q3 => ?_) (fun q3 => ?_) <;> (conv => whnf)
  · rw [arg (by rw [q3]; simp)]
    refine ⟨_, _, c60 l hs0 _, True.intro, ?_⟩
    conv => whnf
    exact ⟨[3, 4, 100], rfl, (by (repeat' (first | exact True.intro | exact rfl | refine And.intro ?_ ?_))), (by (repeat' (first | exact True.intro | exact rfl | refine And.intro ?_ ?_)))⟩
  have hb : l.held.length + l.queue.length ≤ 40 := by unfold lCheck at q1; simp at q1; omega
  have k1 : lDrop l o = ((dropAll l o).1, sortI (dropAll l o).2) := by unfold lDrop; rw [q1, q2, q3]; rfl
  refine ⟨_, _, l61 (fun x => x.owner == o) 0 1 l.held _ (by omega) h3 (fun x _ T => c61 x o T _ _ _), True.intro, ?_⟩
  conv => whnf
  refine ⟨_, _, l61 (fun x => x.owner == o) 0 1 l.queue _ (by omega) h4 (fun x _ T => c61 x o T _ _ _), True.intro, ?_⟩
  conv => whnf
  obtain ⟨Q, hQ⟩ : ∃ Q, Q = rid o l.queue := ⟨_, rfl⟩
  obtain ⟨st, hst⟩ : ∃ st : Nat → Locks × List Int, st = fun k => (Q.take k).foldl dropStep (⟨rid o l.held, []⟩, []) := ⟨_, rfl⟩
  have hst0 : st 0 = (⟨rid o l.held, []⟩, []) := by rw [hst]; rfl
  have hQl : Q.length ≤ l.queue.length := by rw [hQ]; exact rid_len _ _
  have hHl : (rid o l.held).length ≤ l.held.length := rid_len _ _
  have hlen : ∀ k, (st k).1.held.length ≤ l.held.length + l.queue.length ∧ (st k).1.queue.length ≤ l.queue.length ∧ (st k).2.length ≤ l.queue.length := fun k => by
    have h := fold_len (⟨rid o l.held, []⟩, []) (Q.take k)
    rw [hst]
    have h5 : (Q.take k).length ≤ Q.length := by rw [List.length_take]; omega
    simp only [List.length_nil] at h
    dsimp only
    omega
  have hstep : ∀ (k : Nat) x, Q[k]? = some x → st (k + 1) = dropStep (st k) x := fun k x h => by rw [hst]; exact fold_snoc h
  have hlast : lDrop l o = ((st Q.length).1, sortI (st Q.length).2) := by rw [k1, hst]; dsimp only; rw [List.take_length, hQ]; rfl
  refine loopV_of (fun k : Nat => ⟨[.any, .any, .any, .any, .ptr 0 2 0, .row 0 5 (st k).2.length, .any, .any, .any, .any, .any, .any, .any, .any, .any, .any, .any, .any, .any, .any, .any, .any, .any, .any, .any, .any, .any, .any, .any, .any, .any, .any, .row 0 6 Q.length, .d (.int .i64 Q.length), .d (.int .i64 k), .any, .any, .any, .any, .any, .any, .any, .any, .any, .any, .any, .any, .any, .any, .any, .any, .any, .any, .any, .any, .any, .any, .any, .any, .any, .any, .any, .any, .any, .any, .any, .any, .any, .any], [.dead, .dead, .box [.row 0 3 (st k).1.held.length, .row 0 4 (st k).1.queue.length], (rLocks (st k).1.held).blk, (rLocks (st k).1.queue).blk, .row 3 1 (rowI (st k).2), (rLocks Q).blk]⟩)
    (fun k => k ≤ Q.length) (fun k => Q.length - k) 0 [0, 1, 2, 3, 100, 101, 4] (Nat.zero_le _) ?_ ?_
  · rw [hst0, hQ]
    refine And.intro rfl (And.intro ?_ ?_)
    all_goals (repeat' (first | exact True.intro | exact rfl | refine And.intro ?_ ?_))
  · intro k hk
    obtain ⟨b1, b2, b3⟩ := hlen k
    conv => whnf
    refine And.intro (fun h_ => ?_) (fun h_ => ?_)
    · conv => whnf
      have hk' : k < Q.length := by simpa using h_
      obtain ⟨x, hx⟩ : ∃ x, Q[k]? = some x := ⟨_, List.getElem?_eq_getElem hk'⟩
      have hs := hstep k x hx
      refine ⟨by omega, by omega, cLock x, by show (Q.map cLock)[_]? = _; rw [List.getElem?_map]; simp [hx], ?_⟩
      conv => whnf
      have hc := fun H => c45r (st k).1 x (st k).1.queue.length (Nat.le_refl _) (by omega) (by omega) H
      have e1 : pLocks (st k).1 = .agg [.d (.sl (List.take (st k).1.held.length ((st k).1.held.map cLock))), .d (.sl (List.take (st k).1.queue.length ((st k).1.queue.map cLock)))] := by
        rw [List.take_of_length_le (by simp), List.take_of_length_le (by simp)]; rfl
      rw [e1] at hc
      refine ⟨_, _, hc _, And.intro rfl (flat_rowI _ _ _), ?_⟩
      conv => whnf
      refine And.intro (fun q4 => ?_) (fun q4 => ?_) <;> (conv => whnf)
      · have q4 : decide (((lAhead (st k).1 x (st k).1.queue.length).length : Int) > 0) = true := q4
        have hd : dropStep (st k) x = (⟨(st k).1.held, (st k).1.queue ++ [x]⟩, (st k).2) := by unfold dropStep; rw [if_pos q4]
        rw [hd] at hs
        have hql : (st (k + 1)).1.queue.length = (st k).1.queue.length + 1 := by rw [hs]; simp
        refine ⟨fun y hy => by simp at hy; subst hy; rfl, ?_⟩
        conv => whnf
        refine ⟨(List.length_map _).symm, by (first | omega | (dsimp only; omega) | (simp; done) | (simp; omega)), ?_⟩
        conv => whnf
        intro z hz
        conv => whnf
        rw [wrap_small (by omega) (by omega)] at hz
        subst hz
        refine ⟨k + 1, [0, 1, 2, 3, 10, 5, 6], by omega, by omega, And.intro rfl (And.intro ?_ ?_)⟩
        all_goals rw [hs]
        all_goals (repeat' (first | exact True.intro | exact rfl | refine And.intro ?_ ?_))
        · show PV.row 0 10 (_ + _) = PV.row 0 10 (List.length (_ ++ _))
          rw [List.length_append]; rfl
        · show _ = List.map cLock (_ ++ _)
          rw [List.map_append]; rfl
      · have q4 : decide (((lAhead (st k).1 x (st k).1.queue.length).length : Int) > 0) = false := q4
        have hd : dropStep (st k) x = (⟨holdL (st k).1.held x, (st k).1.queue⟩, (st k).2 ++ [x.owner]) := by unfold dropStep; rw [if_neg (by simpa using q4)]
        rw [hd] at hs
        have hgl : (st (k + 1)).2.length = (st k).2.length + 1 := by rw [hs]; simp
        repeat' (first
          | (refine ⟨fun y hy => by simp at hy; subst hy; rfl, ?_⟩; (conv => whnf); refine ⟨(rowI_len _).symm, by (first | omega | (dsimp only; omega) | (simp; done) | (simp; omega)), ?_⟩; (conv => whnf))
          | (refine ⟨_, _, _, c63 (st k).1.held x (by omega) _, ?_⟩; conv => whnf)
          | (refine And.intro ?_ ?_ <;> (conv => whnf)))
        all_goals
          intro z hz
          conv => whnf
          rw [wrap_small (by omega) (by omega)] at hz
          subst hz
          refine ⟨k + 1, [0, 1, 2, 10, 4, 11, 6], by omega, by omega, And.intro rfl (And.intro ?_ ?_)⟩
          all_goals rw [hs]
          all_goals (repeat' (first | exact True.intro | exact rfl | refine And.intro ?_ ?_))
          all_goals (first
            | (show PV.row 0 11 (_ + _) = PV.row 0 11 (List.length (_ ++ _)); rw [List.length_append]; rfl)
            | (show _ = rowI (_ ++ _); unfold rowI; rw [List.map_append]; rfl))
    · conv => whnf
      have hk' : k = Q.length := by simp at h_; omega
      subst hk'
      refine ⟨_, _, _, c64 (st Q.length).2 (by omega) _, ?_⟩
      conv => whnf
      rw [hlast]
      refine ⟨[3, 4, 5], rfl, ?_, ?_⟩
      all_goals (repeat' (first | exact True.intro | exact rfl | refine And.intro ?_ ?_))
      show PV.row 0 5 _ = PV.row 0 5 _
      rw [sortI_len]
theorem fzD (r : Locks × List Int) : fz [rLocks r.1.held, rLocks r.1.queue, ⟨3, 1, rowI r.2⟩] 3 (.tuple [rowsL r.1, .row 0 2 r.2.length]) = .tuple [pLocks r.1, .d (encI r.2)] := by
  change PV.tuple [.agg [.d (.sl (List.take r.1.held.length (r.1.held.map cLock))), .d (.sl (List.take r.1.queue.length (r.1.queue.map cLock)))], .d (.sl (List.take r.2.length (rowI r.2)))] = _
  rw [List.take_of_length_le (by simp), List.take_of_length_le (by simp), List.take_of_length_le (by rw [rowI_len]; exact Nat.le_refl _)]; rfl
def pDropF (r : Locks × List Int) : PV := .tuple [pLocks r.1, .d (encI r.2)]
theorem c25 (l : Locks) (o : Int) (hs : smallLs l) (H : List (List Blk)) : CallEq X H 25 [pLocks l, .d (.int .i64 o)] (pDropF (lDrop l o)) [] :=
  (c25r l o hs H).freeze 3 (fzD _)
end Go.Proofs.Ve

/- Plain laws: texts' order, modes, spans, clashes: the program's words and the document's are one. -/
set_option linter.all false
namespace Go.Proofs.Ve
open Go
/-! ### texts' order -/
def cm (a b : List UInt8) : Int := Go.Lib.compareBytes a b
theorem cm_nn : cm [] [] = 0 := rfl
theorem cm_nc (b : UInt8) (bs : List UInt8) : cm [] (b :: bs) = -1 := rfl
theorem cm_cn (a : UInt8) (ts : List UInt8) : cm (a :: ts) [] = 1 := rfl
theorem cm_cc (a b : UInt8) (ts bs : List UInt8) : cm (a :: ts) (b :: bs) = if a < b then -1 else if b < a then 1 else cm ts bs := rfl
theorem cmpB_eq (a b : List UInt8) : cmpB a b = cm a b := Go.Lib.cmp_eq _ _
theorem u8 {a b : UInt8} : a < b ↔ a.toNat < b.toNat := UInt8.lt_iff_toNat_lt
theorem u8_eq {a b : UInt8} (h1 : ¬ a < b) (h2 : ¬ b < a) : a = b := UInt8.toNat_inj.1 (by rw [u8] at h1 h2; omega)
theorem cm_flip : ∀ (a b : List UInt8), cm b a = - cm a b
  | [], [] => rfl
  | [], _ :: _ => rfl
  | _ :: _, [] => rfl
  | a :: ts, b :: bs => by
    rw [cm_cc, cm_cc]
    by_cases h1 : a < b
    · have h2 : ¬ b < a := by rw [u8] at h1 ⊢; omega
      rw [if_neg h2, if_pos h1, if_pos h1]; rfl
    · by_cases h2 : b < a
      · rw [if_pos h2, if_neg h1, if_pos h2]
      · rw [if_neg h1, if_neg h2, if_neg h2, if_neg h1, cm_flip ts bs]
theorem cm_eq : ∀ (a b : List UInt8), cm a b = 0 ↔ a = b
  | [], [] => by simp [cm_nn]
  | [], _ :: _ => by simp [cm_nc]
  | _ :: _, [] => by simp [cm_cn]
  | a :: ts, b :: bs => by
    rw [cm_cc]
    by_cases h1 : a < b
    · rw [if_pos h1]
      have : a ≠ b := fun e => by subst e; rw [u8] at h1; omega
      simp [this]
    · by_cases h2 : b < a
      · rw [if_neg h1, if_pos h2]
        have : a ≠ b := fun e => by subst e; rw [u8] at h2; omega
        simp [this]
      · rw [if_neg h1, if_neg h2, cm_eq ts bs]
        simp [u8_eq h1 h2]
theorem cm_self (a : List UInt8) : cm a a = 0 := (cm_eq a a).2 rfl
theorem cm_trans : ∀ (a b c : List UInt8), cm a b ≤ 0 → cm b c ≤ 0 → cm a c ≤ 0
  | [], _, [], _, _ => by simp [cm_nn]
  | [], _, _ :: _, _, _ => by simp [cm_nc]
  | _ :: _, [], _, h, _ => by simp [cm_cn] at h
  | _ :: _, _ :: _, [], _, h => by simp [cm_cn] at h
  | a :: ts, b :: bs, c :: cs, h, h' => by
    rw [cm_cc] at h h' ⊢
    by_cases h1 : a < b
    · by_cases h3 : b < c
      · rw [if_pos (by rw [u8] at *; omega)]; decide
      · by_cases h4 : c < b
        · rw [if_neg h3, if_pos h4] at h'; simp at h'
        · rw [← u8_eq h3 h4, if_pos h1]; decide
    · by_cases h2 : b < a
      · rw [if_neg h1, if_pos h2] at h; simp at h
      · have e := u8_eq h1 h2
        subst e
        rw [if_neg h1, if_neg h1] at h
        by_cases h3 : a < c
        · rw [if_pos h3]; decide
        · by_cases h4 : c < a
          · rw [if_neg h3, if_pos h4] at h'; simp at h'
          · rw [if_neg h3, if_neg h4] at h' ⊢
            exact cm_trans ts bs cs h h'
theorem cm_range (a b : List UInt8) : cm a b = -1 ∨ cm a b = 0 ∨ cm a b = 1 := by
  induction a generalizing b with
  | nil => cases b <;> simp [cm_nn, cm_nc]
  | cons x a ih =>
    cases b with
    | nil => simp [cm_cn]
    | cons y b =>
      rw [cm_cc]
      by_cases h1 : x < y
      · simp [h1]
      · by_cases h2 : y < x
        · simp [h1, h2]
        · rw [if_neg h1, if_neg h2]; exact ih b
theorem less_eq : ∀ (a b : List UInt8), Op.bytesLess a b = decide (cm a b < 0)
  | [], [] => rfl
  | [], _ :: _ => rfl
  | _ :: _, [] => rfl
  | a :: ts, b :: bs => by
    rw [Op.bytesLess, cm_cc, less_eq ts bs]
    by_cases h1 : a < b
    · simp [h1]
    · by_cases h2 : b < a
      · have : a ≠ b := fun e => by subst e; exact h1 h2
        simp [h1, h2, this]
      · simp [h1, h2, u8_eq h1 h2]
theorem toBA_list (a : List UInt8) : (toBA a).toList = a := by
  have : (toBA a).toList = (toBA a).data.toList := ByteArray.toList_eq _
  rw [this]; rfl
theorem ltB_eq (a b : List UInt8) : ltB a b = decide (cm a b < 0) := by unfold ltB; rw [toBA_list, toBA_list, less_eq]
theorem eqB_eq (a b : List UInt8) : eqB a b = decide (cm a b = 0) := by
  unfold eqB
  rw [toBA_list, toBA_list]
  by_cases h : a = b
  · subst h; simp [cm_self]
  · have : cm a b ≠ 0 := fun e => h ((cm_eq a b).1 e)
    simp [h, this]
/-! ### modes -/
theorem may_is (m : Int) : decide (rMay m > 0) = mIs m := by
  unfold rMay mIs
  by_cases h1 : m = 1
  · subst h1; rfl
  by_cases h2 : m = 2
  · subst h2; rfl
  by_cases h3 : m = 3
  · subst h3; rfl
  by_cases h4 : m = 4
  · subst h4; rfl
  by_cases h5 : m = 5
  · subst h5; rfl
  have e1 : (m == 1) = false := by simpa using h1
  have e2 : (m == 2) = false := by simpa using h2
  have e3 : (m == 3) = false := by simpa using h3
  have e4 : (m == 4) = false := by simpa using h4
  have e5 : (m == 5) = false := by simpa using h5
  rw [e1, e2, e3, e4, e5]
  simp
  omega
theorem may_no {m : Int} (h : mIs m = false) : rMay m = 0 := by
  rw [← may_is] at h
  have h0 : ¬ rMay m > 0 := by simpa using h
  have : 0 ≤ rMay m := by unfold rMay; split <;> (try split) <;> (try split) <;> (try split) <;> (try split) <;> decide
  omega
theorem fits_eq (a b : Int) : mFits a b = rFits a b := by
  by_cases ha : mIs a = true
  · by_cases hb : mIs b = true
    · rcases mIs_cases ha with rfl | rfl | rfl | rfl | rfl <;> rcases mIs_cases hb with rfl | rfl | rfl | rfl | rfl <;> decide
    · have hb : mIs b = false := by simpa using hb
      unfold mFits rFits; rw [hb, may_no hb]; simp
  · have ha : mIs a = false := by simpa using ha
    unfold mFits rFits; rw [ha, may_no ha]; simp
theorem covers_eq (a b : Int) : mCovers a b = rCovers a b := by
  by_cases ha : mIs a = true
  · by_cases hb : mIs b = true
    · rcases mIs_cases ha with rfl | rfl | rfl | rfl | rfl <;> rcases mIs_cases hb with rfl | rfl | rfl | rfl | rfl <;> decide
    · have hb : mIs b = false := by simpa using hb
      unfold mCovers rCovers; rw [hb, may_no hb]; simp
  · have ha : mIs a = false := by simpa using ha
    unfold mCovers rCovers; rw [ha, may_no ha]; simp
theorem covers_self (m : Int) : mCovers m m = mIs m := by
  cases h : mIs m with
  | true => unfold mCovers; rw [h]; simp
  | false => unfold mCovers; rw [h]; rfl
/-! ### spans -/
theorem check_eq (s : Span) : sCheck s = rSCheck s := by
  unfold sCheck rSCheck
  have : decide (s.t < 4) = decide (s.t ≤ 3) := by simp; omega
  rw [this]
theorem empty_eq (s : Span) : sEmpty s = rSEmpty s := by
  unfold sEmpty rSEmpty
  rw [cmpB_eq, ltB_eq, eqB_eq]
  have : decide (cm s.hi s.lo ≤ 0) = (decide (cm s.hi s.lo < 0) || decide (cm s.hi s.lo = 0)) := by
    rw [Bool.eq_iff_iff]; simp; omega
  rw [this]
theorem meets_eq (a b : Span) : sMeets a b = rMeets a b := by
  unfold sMeets rMeets sIn rSIn
  simp only [cmpB_eq, ltB_eq]
  have r1 := cm_self a.lo
  have r2 := cm_self b.lo
  have fl := cm_flip a.lo b.lo
  by_cases ht : a.t = b.t
  · by_cases h : cm a.lo b.lo < 0
    · have h' : ¬ cm b.lo a.lo < 0 := by omega
      simp [h, h', ht, r1, r2]
      have : cm a.lo b.lo ≤ 0 := by omega
      simp [this]
    · by_cases h2 : cm a.lo b.lo = 0
      · have e := (cm_eq _ _).1 h2
        simp [e, ht, r2]
        cases a.op <;> cases b.op <;> simp [Bool.and_comm]
        exact fun p q => ⟨q, p⟩
      · have h3 : cm b.lo a.lo < 0 := by omega
        simp [h, h3, ht, r1]
        have : cm b.lo a.lo ≤ 0 := by omega
        simp [this, Bool.and_comm]
  · have ht' : ¬ b.t = a.t := fun e => ht e.symm
    have e1 : (a.t == b.t) = false := by simpa using ht
    have e2 : (b.t == a.t) = false := by simpa using ht'
    simp [e1, e2]
/-! ### locks -/
theorem lmay_eq (x : Lock) : lMay x = rLMay x := by
  unfold lMay rLMay
  rw [covers_self, check_eq, empty_eq]
  have e0 : decide (x.owner ≥ 4) = decide (x.owner > 3) := by simp; omega
  rw [e0]
  by_cases h : (decide (x.owner < 0) || decide (x.owner > 3)) = true
  · rw [if_pos h]
    have : (decide (x.owner < 0) || (decide (x.owner > 3) || !rSCheck x.span)) = true := by
      simp only [Bool.or_eq_true] at h ⊢
      rcases h with h | h
      · exact .inl h
      · exact .inr (.inl h)
    rw [if_pos this]
  · rw [if_neg h]
    have h1 : decide (x.owner < 0) = false ∧ decide (x.owner > 3) = false := by simpa using h
    rw [h1.1, h1.2]
    simp only [Bool.false_or]
    rw [may_is]
    cases hc : rSCheck x.span with
    | true =>
      simp only [Bool.not_true, Bool.false_eq_true, if_false, Bool.true_and]
      cases hw : x.whole with
      | false => rfl
      | true =>
        simp only [if_true]
        unfold rSCheck at hc
        simp only [Bool.and_eq_true] at hc
        obtain ⟨⟨⟨⟨a1, a2⟩, _⟩, _⟩, _⟩ := hc
        rw [a1, a2]; simp
    | false =>
      simp only [Bool.not_false, if_true, Bool.false_and]
      cases hw : x.whole with
      | false => simp
      | true =>
        simp only [if_true]
        cases hb : ((x.span.lo.length : Int) == 0 && ((x.span.hi.length : Int) == 0 && !x.span.op)) with
        | false => simp
        | true =>
          simp only [Bool.and_eq_true, beq_iff_eq, Bool.not_eq_true'] at hb
          obtain ⟨b1, b2, b3⟩ := hb
          unfold rSCheck at hc
          rw [b1, b2, b3] at hc
          simp at hc
          simp
          intro h1 h2
          omega
theorem clash_eq (a b : Lock) : lClash a b = rClash a b := by
  unfold lClash rClash; rw [fits_eq, meets_eq]
theorem weak_eq (x y : Lock) : lWeak x y = rWeak x y := by unfold lWeak rWeak; rw [covers_eq]
theorem twice_eq (x y : Lock) : lTwice x y = rTwice x y := by unfold lTwice rTwice; rw [clash_eq]
end Go.Proofs.Ve

/- Plain laws: numbers in order, each once; locks that may be; whom somebody waits for. -/
set_option linter.all false
namespace Go.Proofs.Ve
open Go
/-! ### numbers in order, each once -/
def ddF (last : Int) : List Int → List Int
  | [] => []
  | y :: ys => if y = last then ddF last ys else y :: ddF y ys
def dd : List Int → List Int
  | [] => []
  | x :: xs => x :: ddF x xs
def lastF (last : Int) : List Int → Int
  | [] => last
  | x :: l => lastF x l
theorem lastF_at : ∀ (l : List Int) (last : Int), (last :: l)[l.length]? = some (lastF last l)
  | [], last => rfl
  | x :: l, last => by
    have := lastF_at l x
    simpa [lastF] using this
theorem ddF_snoc (y : Int) : ∀ (l : List Int) (last : Int), ddF last (l ++ [y]) = ddF last l ++ if lastF last l = y then [] else [y]
  | [], last => by
    show (if y = last then [] else [y]) = [] ++ (if last = y then [] else [y])
    by_cases h : y = last
    · rw [if_pos h, if_pos h.symm]; rfl
    · rw [if_neg h, if_neg (fun e : last = y => h e.symm)]; rfl
  | x :: l, last => by
    rw [List.cons_append, ddF, ddF, lastF]
    by_cases h : x = last
    · subst h
      rw [if_pos rfl, if_pos rfl, ddF_snoc y l x]
    · rw [if_neg h, if_neg h, ddF_snoc y l x, List.cons_append]
theorem comp_dd (l : List Int) : compI l = dd l := by
  have key : ∀ m, m ≤ l.length → Lib.compactUpTo l.toArray m = dd (l.take m) := by
    intro m
    induction m with
    | zero => intro _; simp [Lib.compactUpTo, dd]
    | succ m ih =>
      intro hm
      have hlt : m < l.length := by omega
      rw [Lib.compactUpTo_succ, ih (by omega)]
      have hx : l[m]? = some l[m] := List.getElem?_eq_getElem hlt
      rw [take_snoc' hx]
      have hg : l.toArray[m]! = l[m] := by simp [hlt]
      rw [hg]
      cases m with
      | zero => simp [Lib.keeps, dd, ddF]
      | succ m =>
        have hlt' : m < l.length := by omega
        have hg' : l.toArray[m + 1 - 1]! = l[m] := by simp [hlt']
        cases hT : l.take (m + 1) with
        | nil =>
          exfalso
          have := congrArg List.length hT
          rw [List.length_take, List.length_nil] at this
          omega
        | cons x xs =>
          have hxl : xs.length = m := by
            have := congrArg List.length hT
            rw [List.length_take, List.length_cons] at this
            omega
          have hlast : lastF x xs = l[m] := by
            have h1 := lastF_at xs x
            rw [hxl, ← hT, List.getElem?_take_of_lt (by omega), List.getElem?_eq_getElem hlt'] at h1
            exact (Option.some.inj h1).symm
          rw [List.cons_append]
          simp only [dd]
          rw [ddF_snoc, hlast, List.cons_append]
          congr 1
          congr 1
          unfold Lib.keeps
          rw [hg, hg']
          by_cases h : l[m] = l[m + 1]
          · simp [h]
          · have h' : ¬ l[m + 1] = l[m] := fun e => h e.symm
            simp [h, h']
  have := key l.length (Nat.le_refl _)
  rw [List.take_length] at this
  exact this
def Asc (l : List Int) : Prop := l.Pairwise (· < ·)
theorem asc_eq : ∀ {a b : List Int}, Asc a → Asc b → (∀ x, x ∈ a ↔ x ∈ b) → a = b
  | [], [], _, _, _ => rfl
  | [], y :: b, _, _, h => by have := (h y).2 List.mem_cons_self; cases this
  | x :: a, [], _, _, h => by have := (h x).1 List.mem_cons_self; cases this
  | x :: a, y :: b, ha, hb, h => by
    unfold Asc at ha hb
    rw [List.pairwise_cons] at ha hb
    have h1 : x = y := by
      have h2 := (h x).1 List.mem_cons_self
      have h3 := (h y).2 List.mem_cons_self
      rw [List.mem_cons] at h2 h3
      rcases h2 with h2 | h2
      · exact h2
      · rcases h3 with h3 | h3
        · exact h3.symm
        · have := ha.1 y h3; have := hb.1 x h2; omega
    subst h1
    congr 1
    refine asc_eq ha.2 hb.2 fun z => ?_
    have hz := h z
    rw [List.mem_cons, List.mem_cons] at hz
    constructor
    · intro hza
      rcases hz.1 (.inr hza) with rfl | h'
      · have := ha.1 z hza; omega
      · exact h'
    · intro hzb
      rcases hz.2 (.inr hzb) with rfl | h'
      · have := hb.1 z hzb; omega
      · exact h'
theorem ddF_mem : ∀ (l : List Int) (last x : Int), x ∈ ddF last l → x ∈ l
  | [], last, x, h => by cases h
  | y :: l, last, x, h => by
    rw [ddF] at h
    split at h
    · exact List.mem_cons_of_mem _ (ddF_mem l last x h)
    · rw [List.mem_cons] at h ⊢
      exact h.imp id (ddF_mem l y x)
theorem ddF_all : ∀ (l : List Int) (last x : Int), x ∈ l → x = last ∨ x ∈ ddF last l
  | [], last, x, h => by cases h
  | y :: l, last, x, h => by
    rw [ddF]
    rw [List.mem_cons] at h
    split
    · rename_i he
      rcases h with h | h
      · exact .inl (h.trans he)
      · exact ddF_all l last x h
    · rw [List.mem_cons]
      rcases h with h | h
      · exact .inr (.inl h)
      · exact .inr (ddF_all l y x h)
theorem ddF_asc : ∀ (l : List Int) (last : Int), (last :: l).Pairwise (· ≤ ·) → Asc (last :: ddF last l)
  | [], last, _ => by simp [Asc, ddF]
  | y :: l, last, h => by
    rw [List.pairwise_cons] at h
    rw [ddF]
    split
    · rename_i he
      subst he
      exact ddF_asc l y h.2
    · rename_i hne
      have h1 := ddF_asc l y h.2
      unfold Asc at h1 ⊢
      refine List.pairwise_cons.2 ⟨fun z hz => ?_, h1⟩
      have hly := h.1 y List.mem_cons_self
      rw [List.mem_cons] at hz
      rcases hz with rfl | hz
      · omega
      · have := (List.pairwise_cons.1 h1).1 z hz; omega
theorem dd_mem (l : List Int) (x : Int) : x ∈ dd l ↔ x ∈ l := by
  cases l with
  | nil => simp [dd]
  | cons y l =>
    rw [dd, List.mem_cons, List.mem_cons]
    constructor
    · rintro (h | h)
      · exact .inl h
      · exact .inr (ddF_mem l y x h)
    · rintro (h | h)
      · exact .inl h
      · exact ddF_all l y x h
theorem dd_asc {l : List Int} (h : l.Pairwise (· ≤ ·)) : Asc (dd l) := by
  cases l with
  | nil => exact List.Pairwise.nil
  | cons y l => exact ddF_asc l y h
theorem sortI_sorted (l : List Int) : (sortI l).Pairwise (· ≤ ·) := by
  have := List.pairwise_mergeSort (le := fun x y : Int => decide (x ≤ y)) (fun a b c h1 h2 => by simp only [decide_eq_true_eq] at *; omega) (fun a b => by simp only [Bool.or_eq_true, decide_eq_true_eq]; omega) l
  exact this.imp fun {a b} h => by simpa using h
theorem sortI_mem (l : List Int) (x : Int) : x ∈ sortI l ↔ x ∈ l := (List.mergeSort_perm l _).mem_iff
def once (l : List Int) : List Int := compI (sortI l)
theorem once_mem (l : List Int) (x : Int) : x ∈ once l ↔ x ∈ l := by unfold once; rw [comp_dd, dd_mem, sortI_mem]
theorem once_asc (l : List Int) : Asc (once l) := by unfold once; rw [comp_dd]; exact dd_asc (sortI_sorted l)
theorem bitsL_mem : ∀ (bs : List Bool) (i x : Int), x ∈ bitsL bs i ↔ ∃ k : Nat, x = i + k ∧ bs[k]? = some true
  | [], i, x => by simp [bitsL]
  | b :: bs, i, x => by
    have ih := bitsL_mem bs (i + 1) x
    have e : (∃ k : Nat, x = i + k ∧ (b :: bs)[k]? = some true) ↔ (x = i ∧ b = true) ∨ ∃ k : Nat, x = i + 1 + k ∧ bs[k]? = some true := by
      constructor
      · rintro ⟨k, h1, h2⟩
        cases k with
        | zero => exact .inl ⟨by simpa using h1, by simpa using h2⟩
        | succ k => exact .inr ⟨k, by rw [h1]; simp; omega, by simpa using h2⟩
      · rintro (⟨h1, h2⟩ | ⟨k, h1, h2⟩)
        · exact ⟨0, by simpa using h1, by simpa using h2⟩
        · exact ⟨k + 1, by rw [h1]; simp; omega, by simpa using h2⟩
    rw [e]
    cases b with
    | true => rw [bitsL, cond_true, List.mem_cons, ih]; simp
    | false => rw [bitsL, cond_false, ih]; simp
theorem bitsL_asc : ∀ (bs : List Bool) (i : Int), Asc (bitsL bs i)
  | [], i => List.Pairwise.nil
  | b :: bs, i => by
    have ih := bitsL_asc bs (i + 1)
    cases b with
    | false => exact ih
    | true =>
      refine List.pairwise_cons.2 ⟨fun x hx => ?_, ih⟩
      obtain ⟨k, h, _⟩ := (bitsL_mem bs (i + 1) x).1 hx
      omega
/-! ### who is ahead -/
theorem ahead_eq (l : Locks) (x : Lock) (k : Nat) (h1 : ∀ y ∈ l.held, ownOk y) (h2 : ∀ y ∈ l.queue, ownOk y) : lAhead l x k = rAhead l x k := by
  have hL : ∀ y ∈ l.held ++ l.queue.take k, ownOk y := fun y hy => by
    rw [List.mem_append] at hy
    rcases hy with hy | hy
    · exact h1 y hy
    · exact h2 y (List.mem_of_mem_take hy)
  unfold lAhead rAhead
  generalize l.held ++ l.queue.take k = L at hL
  refine asc_eq (once_asc _) (bitsL_asc _ _) fun o => ?_
  have hany : ∀ o, anyB x L o = true ↔ ∃ y, y ∈ L ∧ rClash y x = true ∧ y.owner = o := fun o => by
    unfold anyB
    rw [List.any_eq_true]
    simp
  have e1 : o ∈ once (aheadOf x L) ↔ ∃ y, y ∈ L ∧ rClash y x = true ∧ y.owner = o := by
    rw [once_mem]
    unfold aheadOf
    simp only [List.mem_map, List.mem_filter, clash_eq, and_assoc]
  refine e1.trans (Iff.trans ?_ (bitsL_mem _ _ _).symm)
  rw [← hany]
  constructor
  · intro h
    obtain ⟨y, hy, _, ho⟩ := (hany o).1 h
    rcases hL y hy with h0 | h0 | h0 | h0 <;> rw [h0] at ho <;> subst ho
    · exact ⟨0, rfl, by simpa using h⟩
    · exact ⟨1, rfl, by simpa using h⟩
    · exact ⟨2, rfl, by simpa using h⟩
    · exact ⟨3, rfl, by simpa using h⟩
  · rintro ⟨k, rfl, h⟩
    match k, h with
    | 0, h => simpa using h
    | 1, h => simpa using h
    | 2, h => simpa using h
    | 3, h => simpa using h
    | k + 4, h => simp at h
/-! ### locks that may be -/
theorem single_any : ∀ (l pre : List Lock), rHeldF pre l = (l.all (fun x => rLMay x) && singleFrom pre l)
  | [], pre => rfl
  | x :: l, pre => by
    rw [rHeldF, singleFrom, single_any l, List.all_cons]
    have : pre.any (lTwice x) = pre.any (rTwice x) := by congr 1; funext y; exact twice_eq x y
    rw [this]
    cases rLMay x <;> cases pre.any (rTwice x) <;> simp
def newF (pre : List Lock) : List Lock → Bool
  | [] => true
  | x :: xs => !(pre.any fun y => y.owner == x.owner) && newF (pre ++ [x]) xs
theorem que_new : ∀ (l pre : List Lock), rQueF pre l = (l.all (fun x => rLMay x) && newF pre l)
  | [], pre => rfl
  | x :: l, pre => by
    rw [rQueF, newF, que_new l, List.all_cons]
    cases rLMay x <;> cases pre.any (fun y => y.owner == x.owner) <;> simp
theorem idxOf_app {α : Type} (p : α → Bool) : ∀ (a b : List α) (k : Int), idxOf p (a ++ b) k = if a.any p then idxOf p a k else idxOf p b (k + a.length)
  | [], b, k => by simp
  | x :: a, b, k => by
    rw [List.cons_append, idxOf, idxOf, idxOf_app p a b, List.any_cons]
    cases hx : p x with
    | true => simp
    | false =>
      simp only [cond_false, Bool.false_or, List.length_cons]
      split
      · rfl
      · congr 1; simp; omega
theorem idxOf_in {α : Type} (p : α → Bool) : ∀ (a : List α) (k : Int), a.any p = true → idxOf p a k < k + a.length
  | [], k, h => by cases h
  | x :: a, k, h => by
    rw [idxOf]
    cases hx : p x with
    | true => simp; omega
    | false =>
      rw [List.any_cons, hx, Bool.false_or] at h
      have := idxOf_in p a (k + 1) h
      simp only [cond_false, List.length_cons]
      push_cast
      omega
theorem place_new (pre : List Lock) (x : Lock) (l : List Lock) : (place (pre ++ x :: l) x.owner == (pre.length : Int)) = !(pre.any fun y => y.owner == x.owner) := by
  unfold place
  rw [idxOf_app]
  cases h : pre.any (fun y => y.owner == x.owner) with
  | true =>
    rw [if_pos rfl]
    have := idxOf_in (fun y : Lock => y.owner == x.owner) pre 0 h
    have hne : idxOf (fun y : Lock => y.owner == x.owner) pre 0 ≠ (pre.length : Int) := by omega
    simpa using hne
  | false => simp [idxOf]
theorem queue_eq (l : Locks) (h1 : ∀ y ∈ l.held, ownOk y) (h2 : ∀ y ∈ l.queue, ownOk y) : ∀ (xs pre : List Lock), l.queue = pre ++ xs →
    (lQ l xs pre.length && !xs.any fun x => l.held.any (lWeak x)) = (newF pre xs && rQ2 l xs pre.length)
  | [], pre, _ => rfl
  | x :: xs, pre, he => by
    have ih := queue_eq l h1 h2 xs (pre ++ [x]) (by simpa using he)
    rw [List.length_append, List.length_singleton] at ih
    have ha := ahead_eq l x pre.length h1 h2
    have hp : (place l.queue x.owner == (pre.length : Int)) = !(pre.any fun y => y.owner == x.owner) := by rw [he]; exact place_new pre x xs
    have hw : l.held.any (lWeak x) = l.held.any (rWeak x) := by congr 1; funext y; exact weak_eq x y
    rw [lQ, newF, rQ2, List.any_cons]
    unfold lQok
    rw [hp, ha, hw]
    have hl : decide (((rAhead l x pre.length).length : Int) > 0) = !(((rAhead l x pre.length).length : Int) == 0) := by
      cases (rAhead l x pre.length).length with
      | zero => rfl
      | succ n => simp; omega
    rw [hl]
    cases pre.any (fun y => y.owner == x.owner) <;> cases (((rAhead l x pre.length).length : Int) == 0) <;> cases l.held.any (rWeak x) <;> simp_all
theorem any_not {α : Type} (p : α → Bool) (l : List α) : (l.any fun x => !p x) = !l.all p := by
  induction l with
  | nil => rfl
  | cons x l ih => rw [List.any_cons, List.all_cons, ih]; cases p x <;> simp
theorem lcheck_eq (l : Locks) : lCheck l = rCheck l := by
  unfold lCheck rCheck
  rw [single_any, que_new, any_not, any_not]
  have e : ∀ (xs : List Lock), xs.all lMay = xs.all (fun x => rLMay x) := fun xs => by congr 1; funext x; exact lmay_eq x
  rw [e, e]
  cases ha : l.held.all (fun x => rLMay x) with
  | false => simp
  | true =>
    cases hb : l.queue.all (fun x => rLMay x) with
    | false => simp
    | true =>
      have h1 : ∀ y ∈ l.held, ownOk y := fun y hy => may_own (List.all_eq_true.1 ha y hy)
      have h2 : ∀ y ∈ l.queue, ownOk y := fun y hy => may_own (List.all_eq_true.1 hb y hy)
      have hq := queue_eq l h1 h2 l.queue [] rfl
      simp only [List.length_nil] at hq
      simp only [Bool.not_true, Bool.or_false, Bool.true_and]
      congr 1
      rw [Bool.and_left_comm, hq]
theorem lwaits_eq (l : Locks) (o : Int) : lWaits l o = rWaits l o := by unfold lWaits rWaits; rw [lcheck_eq]
theorem lblockers_eq (l : Locks) (o : Int) : lBlockers l o = rBlockers l o := by
  unfold lBlockers rBlockers
  rw [lwaits_eq]
  cases h : rWaits l o with
  | false => rfl
  | true =>
    have hc : rCheck l = true := by unfold rWaits at h; simp only [Bool.and_eq_true] at h; exact h.1
    obtain ⟨h1, h2⟩ := rCheck_own hc
    simp only [if_true]
    cases l.queue[(place l.queue o).toNat]? with
    | some y => exact ahead_eq l y _ h1 h2
    | none => rfl
theorem same_self : ∀ (l : List Int), sameFrom l l = true
  | [] => rfl
  | x :: l => by rw [sameFrom]; simp [same_self l]
theorem numbers_self (l : List Int) : numbers l l = true := by unfold numbers; simp [same_self]
end Go.Proofs.Ve

/- Plain words that Lean can reckon with: Ask, Drop, Check. -/
set_option linter.all false
namespace Go.Proofs.Ve
open Go
def ins (x : Int) : List Int → List Int
  | [] => [x]
  | y :: ys => if x ≤ y then x :: y :: ys else y :: ins x ys
def isort : List Int → List Int
  | [] => []
  | x :: xs => ins x (isort xs)
theorem ins_mem (x : Int) : ∀ (l : List Int) (z : Int), z ∈ ins x l ↔ z = x ∨ z ∈ l
  | [], z => by simp [ins]
  | y :: l, z => by
    rw [ins]
    split
    · simp
    · rw [List.mem_cons, ins_mem x l z, List.mem_cons]
      constructor
      · rintro (h | h | h) <;> simp [h]
      · rintro (h | h | h) <;> simp [h]
theorem ins_sorted (x : Int) : ∀ (l : List Int), l.Pairwise (· ≤ ·) → (ins x l).Pairwise (· ≤ ·)
  | [], _ => by simp [ins]
  | y :: l, h => by
    rw [List.pairwise_cons] at h
    rw [ins]
    split
    · rename_i hxy
      refine List.pairwise_cons.2 ⟨fun z hz => ?_, List.pairwise_cons.2 h⟩
      rw [List.mem_cons] at hz
      rcases hz with rfl | hz
      · exact hxy
      · have := h.1 z hz; omega
    · rename_i hxy
      refine List.pairwise_cons.2 ⟨fun z hz => ?_, ins_sorted x l h.2⟩
      rw [ins_mem] at hz
      rcases hz with rfl | hz
      · omega
      · exact h.1 z hz
theorem isort_mem : ∀ (l : List Int) (z : Int), z ∈ isort l ↔ z ∈ l
  | [], z => by simp [isort]
  | x :: l, z => by rw [isort, ins_mem, isort_mem l z, List.mem_cons]
theorem isort_sorted : ∀ (l : List Int), (isort l).Pairwise (· ≤ ·)
  | [] => List.Pairwise.nil
  | x :: l => ins_sorted x _ (isort_sorted l)
theorem ins_perm (x : Int) : ∀ (l : List Int), (ins x l).Perm (x :: l)
  | [] => .refl _
  | y :: l => by
    rw [ins]
    split
    · exact .refl _
    · exact ((ins_perm x l).cons y).trans (.swap x y l)
theorem isort_perm : ∀ (l : List Int), (isort l).Perm l
  | [] => .refl _
  | x :: l => (ins_perm x _).trans ((isort_perm l).cons x)
theorem sortI_isort (l : List Int) : sortI l = isort l :=
  List.Perm.eq_of_pairwise (le := fun a b : Int => a ≤ b) (fun a b _ _ h1 h2 => by omega) (sortI_sorted l) (isort_sorted l) ((List.mergeSort_perm l _).trans (isort_perm l).symm)
theorem once_dd (l : List Int) : once l = dd (isort l) := by unfold once; rw [comp_dd, sortI_isort]
def eAhead (l : Locks) (x : Lock) (k : Nat) : List Int := dd (isort (aheadOf x (l.held ++ l.queue.take k)))
theorem eahead_eq (l : Locks) (x : Lock) (k : Nat) : lAhead l x k = eAhead l x k := once_dd _
def eQ (l : Locks) : List Lock → Nat → Bool
  | [], _ => true
  | y :: ys, k => bif place l.queue y.owner == (k : Int) && decide (((eAhead l y k).length : Int) > 0) then eQ l ys (k + 1) else false
theorem eq_eq (l : Locks) : ∀ (xs : List Lock) (k : Nat), lQ l xs k = eQ l xs k
  | [], k => rfl
  | x :: xs, k => by rw [lQ, eQ, eq_eq l xs]; unfold lQok; rw [eahead_eq]
def eCheck (l : Locks) : Bool :=
  !(decide ((l.held.length : Int) + l.queue.length > 40) || (l.held.any (fun x => !lMay x) || l.queue.any fun x => !lMay x)) && (eQ l l.queue 0 && (singleFrom [] l.held && !l.queue.any fun x => l.held.any (lWeak x)))
theorem echeck_eq (l : Locks) : lCheck l = eCheck l := by unfold lCheck eCheck; rw [eq_eq]
def eWaits (l : Locks) (o : Int) : Bool := eCheck l && decide (place l.queue o ≥ 0)
theorem ewaits_eq (l : Locks) (o : Int) : lWaits l o = eWaits l o := by unfold lWaits eWaits; rw [echeck_eq]
def eBlockers (l : Locks) (o : Int) : List Int := if eWaits l o then (match l.queue[(place l.queue o).toNat]? with | some y => eAhead l y (place l.queue o).toNat | none => []) else []
theorem eblockers_eq (l : Locks) (o : Int) : lBlockers l o = eBlockers l o := by
  unfold lBlockers eBlockers
  rw [ewaits_eq]
  cases l.queue[(place l.queue o).toNat]? with
  | some y => simp only [eahead_eq]
  | none => rfl
def eAsk (l : Locks) (x : Lock) : Locks × Int :=
  if !eCheck l || (!lMay x || eWaits l x.owner) then (l, 1)
  else if l.held.any (fun h => lServes h x) then (l, 0)
  else if decide ((l.held.length : Int) + l.queue.length ≥ 40) then (l, 111)
  else if decide (((eAhead l (lJoined l x) l.queue.length).length : Int) > 0) then (⟨l.held, l.queue ++ [lJoined l x]⟩, 110)
  else (⟨holdL l.held (lJoined l x), l.queue⟩, 0)
theorem eask_eq (l : Locks) (x : Lock) : lAsk l x = eAsk l x := by unfold lAsk eAsk; rw [echeck_eq, ewaits_eq, eahead_eq]
def eStep (s : Locks × List Int) (x : Lock) : Locks × List Int :=
  if decide (((eAhead s.1 x s.1.queue.length).length : Int) > 0) then (⟨s.1.held, s.1.queue ++ [x]⟩, s.2) else (⟨holdL s.1.held x, s.1.queue⟩, s.2 ++ [x.owner])
def eDropAll (l : Locks) (o : Int) : Locks × List Int := (rid o l.queue).foldl eStep (⟨rid o l.held, []⟩, [])
def eDrop (l : Locks) (o : Int) : Locks × List Int :=
  if !eCheck l || (decide (o < 0) || decide (o ≥ 4)) then (l, []) else ((eDropAll l o).1, isort (eDropAll l o).2)
theorem estep_eq : dropStep = eStep := by funext s x; unfold dropStep eStep; rw [eahead_eq]
theorem edrop_eq (l : Locks) (o : Int) : lDrop l o = eDrop l o := by unfold lDrop eDrop dropAll eDropAll; rw [echeck_eq, estep_eq, sortI_isort]
end Go.Proofs.Ve

/- Awake: calls whose answers the document fixes. -/
set_option maxRecDepth 100000
set_option linter.all false
namespace Go.Proofs.Ve
open Go
def pointS (t : Int) (k : List UInt8) : Span := ⟨t, k, k ++ [0], false⟩
theorem c71 (t : Int) (k : List UInt8) (hk : k.length ≤ 1000000) (H : List (List Blk)) : CallEq X H 71 [.d (.int .i64 t), .d (encB k)] (pSpan (pointS t k)) [] := by
  have base : CallEq X H 71 [.d (.int .i64 t), .d (encB k)] (.agg [.d (.int .i64 t), .d (encB k), .row 0 0 (k.length + 1), .d (.bool false)]) [⟨5, 1, rowB (k ++ [0])⟩] := by
    refine callEq_of_body X_ok rfl Try.func71 rfl ?_
    conv => whnf
    refine ⟨_, _, c103 k (by omega) _, True.intro, ?_⟩
    conv => whnf
    refine ⟨_, _, c103r k (by omega) _, True.intro, ?_⟩
    conv => whnf
    refine ⟨fun y hy => by simp at hy; subst hy; rfl, ?_⟩
    conv => whnf
    refine ⟨by show k.length = (rowB k).length; simp [rowB], by (first | omega | (dsimp only; omega) | (simp; done) | (simp; omega)), ?_⟩
    conv => whnf
    refine ⟨[2], rfl, ?_, ?_⟩
    all_goals (repeat' (first | exact True.intro | exact rfl | refine And.intro ?_ ?_))
    show _ = rowB (k ++ [0])
    unfold rowB; rw [List.map_append]; rfl
  refine base.freeze 2 ?_
  change PV.agg [.d (.int .i64 t), .d (encB k), .d (.sl (List.take (k.length + 1) (rowB (k ++ [0])))), .d (.bool false)] = _
  rw [List.take_of_length_le (by simp [rowB])]; rfl
def oneL (o : Int) (s : ByteArray) (m : Int) : Lock := ⟨o, false, pointS 0 s.data.toList, m⟩
theorem c43 (o : Int) (s : ByteArray) (m : Int) (hs : s.size ≤ 1000000) (H : List (List Blk)) : CallEq X H 43 [.d (.int .i64 o), .d (.str s), .d (.int .i64 m)] (pLock (oneL o s m)) [] := by
  refine callEq_of_body X_ok rfl Try.func43 rfl ?_
  conv => whnf
  refine ⟨rfl, by omega, ?_⟩
  conv => whnf
  refine ⟨_, _, c71 0 s.data.toList (by rw [Array.length_toList]; exact hs) _, True.intro, ?_⟩
  conv => whnf
  refine ⟨[], rfl, ?_, ?_⟩
  all_goals (repeat' (first | exact True.intro | exact rfl | refine And.intro ?_ ?_))
def smallB (l : Locks) : Bool := Nat.blt l.held.length 100000 && (Nat.blt l.queue.length 100000 && (l.held.all (fun x => Nat.ble x.span.lo.length 1000000 && Nat.ble x.span.hi.length 1000000) && l.queue.all (fun x => Nat.ble x.span.lo.length 1000000 && Nat.ble x.span.hi.length 1000000)))
theorem small_of {l : Locks} (h : smallB l = true) : smallLs l := by
  unfold smallB at h
  simp only [Bool.and_eq_true, List.all_eq_true] at h
  obtain ⟨h1, h2, h3, h4⟩ := h
  exact ⟨by simpa [Nat.blt_eq] using h1, by simpa [Nat.blt_eq] using h2, fun x hx => ⟨Nat.le_of_ble_eq_true (h3 x hx).1, Nat.le_of_ble_eq_true (h3 x hx).2⟩, fun x hx => ⟨Nat.le_of_ble_eq_true (h4 x hx).1, Nat.le_of_ble_eq_true (h4 x hx).2⟩⟩
def smallXB (x : Lock) : Bool := Nat.ble x.span.lo.length 1000000 && Nat.ble x.span.hi.length 1000000
theorem smallX_of {x : Lock} (h : smallXB x = true) : smallX x := by
  unfold smallXB at h
  simp only [Bool.and_eq_true] at h
  exact ⟨Nat.le_of_ble_eq_true h.1, Nat.le_of_ble_eq_true h.2⟩
theorem e26 (l : Locks) (x : Lock) (hs : smallB l = true) (hx : smallXB x = true) (H : List (List Blk)) : CallEq X H 26 [pLocks l, pLock x] (pAskF (eAsk l x)) [] :=
  eask_eq l x ▸ c26 l x (small_of hs) (smallX_of hx) H
theorem e26r (l : Locks) (x : Lock) (hs : smallB l = true) (hx : smallXB x = true) (H : List (List Blk)) : CallEq X H 26 [pLocks l, pLock x] (pAsk (eAsk l x)) [rLocks (eAsk l x).1.held, rLocks (eAsk l x).1.queue] :=
  eask_eq l x ▸ c26r l x (small_of hs) (smallX_of hx) H
theorem e25 (l : Locks) (o : Int) (hs : smallB l = true) (H : List (List Blk)) : CallEq X H 25 [pLocks l, .d (.int .i64 o)] (pDropF (eDrop l o)) [] :=
  edrop_eq l o ▸ c25 l o (small_of hs) H
theorem e23 (l : Locks) (o : Int) (hs : smallB l = true) (H : List (List Blk)) : CallEq X H 23 [pLocks l, .d (.int .i64 o)] (.d (.bool (eWaits l o))) [] :=
  ewaits_eq l o ▸ c23 l o (small_of hs).1 (small_of hs).2.1 H
theorem e17 (l : Locks) (o : Int) (hs : smallB l = true) (H : List (List Blk)) : CallEq X H 17 [pLocks l, .d (.int .i64 o)] (.d (encI (eBlockers l o))) [] :=
  eblockers_eq l o ▸ c17 l o (small_of hs).1 (small_of hs).2.1 H
theorem e19 (l : Locks) (hs : smallB l = true) (H : List (List Blk)) : CallEq X H 19 [pLocks l] (.d (.bool (eCheck l))) [] :=
  echeck_eq l ▸ c19 l (small_of hs).1 (small_of hs).2.1 H
theorem e16 (a b : List Int) (h : Nat.blt a.length 1000000 = true) (H : List (List Blk)) : CallEq X H 16 [.d (encI a), .d (encI b)] (.d (.bool (numbers a b))) [] := c16 a b (by simpa [Nat.blt_eq] using h) H
def k0 : Locks := ⟨[], []⟩
def tA : ByteArray := ⟨#[97]⟩
def tB : ByteArray := ⟨#[98]⟩
def tC : ByteArray := ⟨#[99]⟩
def kA : Locks := (eAsk k0 (oneL 0 tA 5)).1
def kB : Locks := (eAsk kA (oneL 1 tA 3)).1
def kC : Locks := (eAsk kB (oneL 2 tB 5)).1
def zeroL : Lock := ⟨0, false, ⟨0, [], [], false⟩, 0⟩
def k41 : Locks := ⟨List.replicate 41 zeroL, []⟩
def kU : Locks := (eAsk k0 ⟨0, true, ⟨0, [], [], false⟩, 2⟩).1
theorem c13 (H : List (List Blk)) : CallEq X H 13 [] (.d (.bool true)) [] := by
  refine callEq_of_body X_ok rfl Try.func13 rfl ?_
  conv => whnf
  refine ⟨_, _, c43 0 tA 5 (by decide) _, True.intro, ?_⟩
  conv => whnf
  refine ⟨_, _, e26 k0 (oneL 0 tA 5) (by kernel_rfl) (by kernel_rfl) _, True.intro, ?_⟩
  conv => whnf
  refine ⟨_, _, c43 1 tA 3 (by decide) _, True.intro, ?_⟩
  conv => whnf
  refine ⟨_, _, e26 kA (oneL 1 tA 3) (by kernel_rfl) (by kernel_rfl) _, True.intro, ?_⟩
  conv => whnf
  refine ⟨_, _, c43 2 tB 5 (by decide) _, True.intro, ?_⟩
  conv => whnf
  refine ⟨_, _, e26 kB (oneL 2 tB 5) (by kernel_rfl) (by kernel_rfl) _, True.intro, ?_⟩
  conv => whnf
  refine ⟨_, _, c43 1 tC 3 (by decide) _, True.intro, ?_⟩
  conv => whnf
  refine ⟨_, _, e26 kC (oneL 1 tC 3) (by kernel_rfl) (by kernel_rfl) _, True.intro, ?_⟩
  conv => whnf
  refine ⟨_, _, e25 kC 0 (by kernel_rfl) _, True.intro, ?_⟩
  conv => whnf
  refine ⟨_, _, c43 0 tA 3 (by decide) _, True.intro, ?_⟩
  conv => whnf
  refine ⟨_, _, e26 kC (oneL 0 tA 3) (by kernel_rfl) (by kernel_rfl) _, True.intro, ?_⟩
  conv => whnf
  refine ⟨rfl, by decide, by (first | omega | (dsimp only; omega) | (simp; done) | (simp; omega)), by decide, ?_⟩
  conv => whnf
  refine ⟨_, _, c43 0 tA 3 (by decide) _, True.intro, ?_⟩
  conv => whnf
  have h41 := fun H => e26r k41 (oneL 0 tA 3) (by kernel_rfl) (by kernel_rfl) H
  refine ⟨_, _, h41 _, And.intro rfl (by unfold FlatN; decide), ?_⟩
  conv => whnf
  refine ⟨_, _, e26 k0 ⟨0, true, ⟨0, [], [], false⟩, 2⟩ (by kernel_rfl) (by kernel_rfl) _, True.intro, ?_⟩
  conv => whnf
  refine ⟨_, _, e26 kU ⟨0, true, ⟨0, [], [], false⟩, 3⟩ (by kernel_rfl) (by kernel_rfl) _, True.intro, ?_⟩
  conv => whnf
  refine And.intro (fun h => absurd (h.symm.trans (by kernel_rfl)) (show ¬ (true = false) by decide)) (fun _ => ?_)
  conv => whnf
  repeat (first
    | (refine And.intro (fun _ => ?_) (fun h => absurd (h.symm.trans (by kernel_rfl)) (show ¬ ((!true) = true) by decide)); conv => whnf)
    | (refine ⟨_, _, e23 kB 1 (by kernel_rfl) _, True.intro, ?_⟩; conv => whnf)
    | (refine ⟨_, _, e17 kB 1 (by kernel_rfl) _, True.intro, ?_⟩; conv => whnf)
    | (refine ⟨_, _, e16 (eBlockers kB 1) [0] (by kernel_rfl) _, True.intro, ?_⟩; conv => whnf)
    | (refine ⟨_, _, e16 (eDrop kC 0).2 [1] (by kernel_rfl) _, True.intro, ?_⟩; conv => whnf)
    | (refine ⟨_, _, e19 kC (by kernel_rfl) _, True.intro, ?_⟩; conv => whnf)
    | (refine ⟨_, _, e19 ⟨[], kC.queue⟩ (by kernel_rfl) _, True.intro, ?_⟩; conv => whnf))
  refine ⟨by decide, cLock ⟨0, true, ⟨0, [], [], false⟩, 4⟩, by kernel_rfl, rfl, ?_⟩
  conv => whnf
  repeat (first
    | (refine And.intro (fun _ => ?_) (fun h => absurd (h.symm.trans (by kernel_rfl)) (show ¬ ((!true) = true) by decide)); conv => whnf)
    | (refine ⟨_, _, e23 kB 1 (by kernel_rfl) _, True.intro, ?_⟩; conv => whnf)
    | (refine ⟨_, _, e17 kB 1 (by kernel_rfl) _, True.intro, ?_⟩; conv => whnf)
    | (refine ⟨_, _, e16 (eBlockers kB 1) [0] (by kernel_rfl) _, True.intro, ?_⟩; conv => whnf)
    | (refine ⟨_, _, e16 (eDrop kC 0).2 [1] (by kernel_rfl) _, True.intro, ?_⟩; conv => whnf)
    | (refine ⟨_, _, e19 kC (by kernel_rfl) _, True.intro, ?_⟩; conv => whnf)
    | (refine ⟨_, _, e19 ⟨[], kC.queue⟩ (by kernel_rfl) _, True.intro, ?_⟩; conv => whnf))
  exact ⟨[], rfl, rfl, True.intro⟩
end Go.Proofs.Ve

/- LockTells: its body tells true. -/
set_option maxRecDepth 100000
set_option linter.all false
namespace Go.Proofs.Ve
open Go
theorem few_le {l : Locks} (h : few l = true) : l.held.length ≤ 60 ∧ l.queue.length ≤ 60 := by
  unfold few at h
  split at h
  · cases h
  · next hn => simp at hn; omega
theorem c3 (l : Locks) (a b : Lock) (o : Int) (H : List (List Blk)) : CallEq X H 3 [pLocks l, pLock a, pLock b, .d (.int .i64 o)] (.d (.bool true)) [] := by
  cases hf : few l with
  | false =>
    have hw := fun H => hf ▸ c14 l H
    refine callEq_of_body X_ok rfl Try.func3 rfl ?_
    conv => whnf
    repeat' (first
      | (refine And.intro (fun h_ => ?_) (fun h_ => ?_) <;> (conv => whnf))
      | (refine ⟨_, _, c13 _, (by first | exact True.intro | exact And.intro rfl flat_nil), ?_⟩; conv => whnf)
      | (refine ⟨_, _, hw _, (by first | exact True.intro | exact And.intro rfl flat_nil), ?_⟩; conv => whnf)
      | (refine ⟨_, _, c15 a _, (by first | exact True.intro | exact And.intro rfl flat_nil), ?_⟩; conv => whnf)
      | (refine ⟨_, _, c15 b _, (by first | exact True.intro | exact And.intro rfl flat_nil), ?_⟩; conv => whnf)
      | (intro z_ hz_; conv => whnf)
      | (refine ⟨[], rfl, ?_, True.intro⟩; (conv => whnf); (first | done | ((first | exact rfl | (exfalso; simp at h_; done)); done)))
      | fail)
    simp_all
  | true =>
    have ⟨hl1, hl2⟩ := few_le hf
    have h1 : l.held.length < 100000 := by omega
    have h2 : l.queue.length < 100000 := by omega
    have hlen : (rBlockers l o).length < 1000000 := by
      unfold rBlockers
      split
      · split
        · unfold rAhead
          exact Nat.lt_of_le_of_lt (bitsL_len _ _) (by simp)
        · decide
      · decide
    have hb := fun H => lblockers_eq l o ▸ c17 l o h1 h2 H
    have hn := fun H => numbers_self (rBlockers l o) ▸ c16 (rBlockers l o) (rBlockers l o) hlen H
    have hc := fun H => lcheck_eq l ▸ c19 l h1 h2 H
    have hx := fun H => clash_eq a b ▸ c21 a b H
    have hw := fun H => lwaits_eq l o ▸ c23 l o h1 h2 H
    refine callEq_of_body X_ok rfl Try.func3 rfl ?_
    conv => whnf
    repeat' (first
      | (refine And.intro (fun h_ => ?_) (fun h_ => ?_) <;> (conv => whnf))
      | (refine ⟨_, _, c13 _, (by first | exact True.intro | exact And.intro rfl flat_nil), ?_⟩; conv => whnf)
      | (refine ⟨_, _, c14 l _, (by first | exact True.intro | exact And.intro rfl flat_nil), ?_⟩; conv => whnf)
      | (refine ⟨_, _, c15 a _, (by first | exact True.intro | exact And.intro rfl flat_nil), ?_⟩; conv => whnf)
      | (refine ⟨_, _, c15 b _, (by first | exact True.intro | exact And.intro rfl flat_nil), ?_⟩; conv => whnf)
      | (refine ⟨_, _, hb _, (by first | exact True.intro | exact And.intro rfl flat_nil), ?_⟩; conv => whnf)
      | (refine ⟨_, _, c18 l o h1 h2 _, (by first | exact True.intro | exact And.intro rfl flat_nil), ?_⟩; conv => whnf)
      | (refine ⟨_, _, hc _, (by first | exact True.intro | exact And.intro rfl flat_nil), ?_⟩; conv => whnf)
      | (refine ⟨_, _, c20 l h1 h2 _, (by first | exact True.intro | exact And.intro rfl flat_nil), ?_⟩; conv => whnf)
      | (refine ⟨_, _, hx _, (by first | exact True.intro | exact And.intro rfl flat_nil), ?_⟩; conv => whnf)
      | (refine ⟨_, _, c22 a b _, (by first | exact True.intro | exact And.intro rfl flat_nil), ?_⟩; conv => whnf)
      | (refine ⟨_, _, hn _, (by first | exact True.intro | exact And.intro rfl flat_nil), ?_⟩; conv => whnf)
      | (refine ⟨_, _, hw _, (by first | exact True.intro | exact And.intro rfl flat_nil), ?_⟩; conv => whnf)
      | (refine ⟨_, _, c24 l o h1 h2 _, (by first | exact True.intro | exact And.intro rfl flat_nil), ?_⟩; conv => whnf)
      | (intro z_ hz_; conv => whnf)
      | (refine ⟨[], rfl, ?_, True.intro⟩; (conv => whnf); (first | done | ((first | exact rfl | (exfalso; simp at h_; done) | exact congrArg DV.bool (beq_self_eq_true _)); done)))
      | fail)
end Go.Proofs.Ve

/- The seat's types, as plain data. -/
set_option maxRecDepth 100000
set_option linter.all false
namespace Go.Proofs.Ve
open Go
theorem all_map {α β : Type} {f : α → β} : ∀ (xs : List β), (∀ y ∈ xs, ∃ a, y = f a) → ∃ l : List α, xs = l.map f
  | [], _ => ⟨[], rfl⟩
  | y :: ys, h => by
    obtain ⟨a, rfl⟩ := h y (List.mem_cons_self ..)
    obtain ⟨l, rfl⟩ := all_map ys (fun z hz => h z (List.mem_cons_of_mem _ hz))
    exact ⟨a :: l, rfl⟩
theorem fit_bytes {y : DV} (h : FitC (.sl [.int .u8]) y) : ∃ b, y = encB b := by
  obtain ⟨xs, rfl, _, h2⟩ := h.sl_inv
  obtain ⟨l, rfl⟩ := all_map (f := fun x : UInt8 => [DV.int .u8 x.toNat]) xs (fun z hz => by
    obtain ⟨u, z', rfl, hu, hz'⟩ := (h2 z hz).cons
    cases hz'.done
    obtain ⟨n, rfl, hn⟩ := hu.int_inv
    simp only [Lit.wf, Bool.and_eq_true, decide_eq_true_eq] at hn
    have hmin : IntKind.u8.min = 0 := by decide
    have hmax : IntKind.u8.max = 255 := by decide
    rw [hmin, hmax] at hn
    refine ⟨UInt8.ofNat n.toNat, ?_⟩
    have : ((UInt8.ofNat n.toNat).toNat : Int) = n := by rw [UInt8.toNat_ofNat']; omega
    rw [this])
  exact ⟨l, rfl⟩
def ctLock : List CT := [.int .i64, .bool, .int .i64, .sl [.int .u8], .sl [.int .u8], .bool, .int .i64]
theorem fit_lock {ds : List DV} (h : FitR ctLock ds) : ∃ x : Lock, ds = cLock x := by
  obtain ⟨_, _, rfl, h1, h⟩ := h.cons
  obtain ⟨_, _, rfl, h2, h⟩ := h.cons
  obtain ⟨_, _, rfl, h3, h⟩ := h.cons
  obtain ⟨_, _, rfl, h4, h⟩ := h.cons
  obtain ⟨_, _, rfl, h5, h⟩ := h.cons
  obtain ⟨_, _, rfl, h6, h⟩ := h.cons
  obtain ⟨_, _, rfl, h7, h⟩ := h.cons
  cases h.done
  obtain ⟨a, rfl, _⟩ := h1.int_inv
  obtain ⟨b, rfl⟩ := h2.bool_inv
  obtain ⟨c, rfl, _⟩ := h3.int_inv
  obtain ⟨d, rfl⟩ := fit_bytes h4
  obtain ⟨e, rfl⟩ := fit_bytes h5
  obtain ⟨f, rfl⟩ := h6.bool_inv
  obtain ⟨g, rfl, _⟩ := h7.int_inv
  exact ⟨⟨a, b, ⟨c, d, e, f⟩, g⟩, rfl⟩
theorem fit_list {y : DV} (h : FitC (.sl ctLock) y) : ∃ l : List Lock, y = encLocks l := by
  obtain ⟨xs, rfl, _, h2⟩ := h.sl_inv
  obtain ⟨l, rfl⟩ := all_map (f := cLock) xs (fun z hz => fit_lock (h2 z hz))
  exact ⟨l, rfl⟩
def ctLocks : List CT := [.sl ctLock, .sl ctLock]
theorem fit_locks {ds : List DV} (h : FitR ctLocks ds) : ∃ l : Locks, pOf true ds = pLocks l := by
  obtain ⟨_, _, rfl, h1, h⟩ := h.cons
  obtain ⟨_, _, rfl, h2, h⟩ := h.cons
  cases h.done
  obtain ⟨a, rfl⟩ := fit_list h1
  obtain ⟨b, rfl⟩ := fit_list h2
  exact ⟨⟨a, b⟩, rfl⟩
theorem fit_plock {ds : List DV} (h : FitR ctLock ds) : ∃ x : Lock, pOf true ds = pLock x := by
  obtain ⟨x, rfl⟩ := fit_lock h
  exact ⟨x, rfl⟩
theorem fit_int {k : IntKind} {ds : List DV} (h : FitR [.int k] ds) : ∃ n, pOf false ds = .d (.int k n) ∧ (Lit.int k n).wf = true := by
  obtain ⟨_, _, rfl, h1, h⟩ := h.cons
  cases h.done
  obtain ⟨a, rfl, hw⟩ := h1.int_inv
  exact ⟨a, rfl, hw⟩
end Go.Proofs.Ve

/- Same; LockAlone: its body tells true. -/
set_option maxRecDepth 100000
set_option linter.all false
namespace Go.Proofs.Ve
open Go
def eqL (x y : Lock) : Bool := !(!sOne x.span y.span || (x.owner != y.owner || (!(x.whole == y.whole) || x.mode != y.mode)))
def sameLF : List Lock → List Lock → Bool
  | [], _ => true
  | x :: xs, ys => match ys with | [] => true | y :: ys => bif eqL x y then sameLF xs ys else false
theorem sameL_step {l m : List Lock} {k : Nat} {x y : Lock} (h : l[k]? = some x) (h' : m[k]? = some y) : sameLF (l.drop k) (m.drop k) = bif eqL x y then sameLF (l.drop (k + 1)) (m.drop (k + 1)) else false := by
  have hk := (List.getElem?_eq_some_iff.1 h).1
  have hm := (List.getElem?_eq_some_iff.1 h').1
  rw [List.drop_eq_getElem_cons hk, List.drop_eq_getElem_cons hm, (List.getElem?_eq_some_iff.1 h).2, (List.getElem?_eq_some_iff.1 h').2, sameLF]
def sameLs (a b : List Lock) : Bool := if ((a.map cLock).length : Int) != ((b.map cLock).length : Int) then false else sameLF a b
theorem c70 (a b : List Lock) (ha : a.length < 1000000) (H : List (List Blk)) : CallEq X H 70 [.d (encLocks a), .d (encLocks b)] (.d (.bool (sameLs a b))) [] := by
  refine callEq_of_body X_ok rfl Try.func70 rfl ?_
  conv => whnf
  refine And.intro (fun h0 => ?_) (fun h0 => ?_)
  · conv => whnf
    refine ⟨[], rfl, ?_, True.intro⟩
    show DV.bool false = .bool (sameLs a b)
    unfold sameLs; rw [if_pos h0]
  · conv => whnf
    have hlen : a.length = b.length := by simp at h0; omega
    have hn : sameLs a b = sameLF a b := by unfold sameLs; rw [h0]; rfl
    refine loopV_of (fun k : Nat => ⟨[.d (encLocks a), .d (encLocks b), .any, .any, .any, .d (.int .i64 k), .any, .any, .any, .any, .any, .any, .any, .any, .any, .any, .any, .any, .any, .any, .any, .any, .any, .any, .any, .any, .any, .any, .any, .any, .any, .any, .any, .any, .any, .any, .any, .any, .any, .any, .any, .any, .any, .any, .any, .any, .any, .any, .any, .any, .any, .any, .any, .any, .any, .any, .any, .any, .any, .any, .any, .any, .any, .any, .any, .any, .any, .any, .any, .any], []⟩)
      (fun k => k ≤ a.length ∧ sameLs a b = sameLF (a.drop k) (b.drop k)) (fun k => a.length - k) 0 [] ⟨Nat.zero_le _, hn⟩ ?_ ?_
    · refine And.intro rfl (And.intro ?_ ?_)
      all_goals (repeat' (first | exact True.intro | exact rfl | refine And.intro ?_ ?_))
    · rintro k ⟨hk, hidx⟩
      conv => whnf
      refine And.intro (fun h_ => ?_) (fun h_ => ?_)
      · conv => whnf
        have hk' : k < a.length := by simpa using h_
        obtain ⟨x, hx⟩ : ∃ x, a[k]? = some x := ⟨_, List.getElem?_eq_getElem hk'⟩
        obtain ⟨y, hy⟩ : ∃ y, b[k]? = some y := ⟨_, List.getElem?_eq_getElem (by omega)⟩
        have hst := sameL_step hx hy
        refine ⟨by omega, cLock x, by simp [hx], rfl, ?_⟩
        conv => whnf
        refine ⟨by omega, cLock y, by simp [hy], rfl, ?_⟩
        conv => whnf
        refine ⟨_, _, c108 x.span y.span _, True.intro, ?_⟩
        conv => whnf
        have no : eqL x y = false → DV.bool false = .bool (sameLs a b) := fun h1 => by rw [hidx, hst, h1]; rfl
        have next : eqL x y = true → sameLs a b = sameLF (a.drop (k + 1)) (b.drop (k + 1)) := fun h1 => by rw [hidx, hst, h1]; rfl
        clear hst hidx hn h0
        have fx : (a.map cLock)[k]? = some (cLock x) := by simp [hx]
        have fy : (b.map cLock)[k]? = some (cLock y) := by simp [hy]
        repeat' (first
          | (refine And.intro (fun _ => ?_) (fun _ => ?_) <;> (conv => whnf))
          | (refine ⟨by omega, cLock x, fx, rfl, ?_⟩; conv => whnf)
          | (refine ⟨by omega, cLock y, fy, rfl, ?_⟩; conv => whnf))
        all_goals (first
          | (refine ⟨[], rfl, no ?_, True.intro⟩; clear no next fx fy hx hy h_ hk hk' hlen ha; unfold eqL; simp_all; done)
          | (intro z hz
             conv => whnf
             rw [wrap_small (by omega) (by omega)] at hz
             subst hz
             refine ⟨k + 1, [], ⟨by omega, next ?_⟩, by omega, And.intro rfl (And.intro ?_ ?_)⟩
             · clear no next fx fy hx hy h_ hk hk' hlen ha; unfold eqL; simp_all; done
             all_goals (repeat' (first | exact True.intro | exact rfl | refine And.intro ?_ ?_))))
      · conv => whnf
        have hk' : k = a.length := by simp at h_; omega
        refine ⟨[], rfl, ?_, True.intro⟩
        show DV.bool true = .bool (sameLs a b)
        rw [hidx, hk', List.drop_length]; rfl
theorem c27 (a b : Locks) (h1 : a.held.length < 1000000) (h2 : a.queue.length < 1000000) (H : List (List Blk)) : CallEq X H 27 [pLocks a, pLocks b] (.d (.bool (sameLs a.held b.held && sameLs a.queue b.queue))) [] := by
  refine callEq_of_body X_ok rfl Try.func27 rfl ?_
  conv => whnf
  repeat' (first
    | (refine And.intro (fun h_ => ?_) (fun h_ => ?_) <;> (conv => whnf))
    | (refine ⟨_, _, c70 a.held b.held h1 _, (by first | exact True.intro | exact And.intro rfl flat_nil), ?_⟩; conv => whnf)
    | (refine ⟨_, _, c70 a.queue b.queue h2 _, (by first | exact True.intro | exact And.intro rfl flat_nil), ?_⟩; conv => whnf)
    | (intro z_ hz_; conv => whnf)
    | (refine ⟨[], rfl, ?_, True.intro⟩; (conv => whnf); (first | done | (simp_all only [refP, Bool.not_true, Bool.not_false, Bool.true_and, Bool.false_and, Bool.and_true, Bool.and_false, Bool.true_or, Bool.false_or, Bool.or_true, Bool.or_false, Bool.not_not, Bool.not_eq_true', Bool.not_eq_false', if_true, if_false, Bool.false_eq_true, Bool.true_eq_false, List.length_map]; done)))
    | fail)
theorem eqL_self (x : Lock) : eqL x x = true := by
  unfold eqL sOne
  simp [eqB_eq, cm_self]
theorem sameLF_self : ∀ l : List Lock, sameLF l l = true
  | [] => rfl
  | x :: xs => by rw [sameLF, eqL_self, sameLF_self xs]; rfl
theorem sameLs_self (l : List Lock) : sameLs l l = true := by unfold sameLs; simp [sameLF_self]
end Go.Proofs.Ve
