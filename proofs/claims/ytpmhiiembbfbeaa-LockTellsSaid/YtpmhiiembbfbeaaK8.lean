/- The document's place of an owner's, and what it says covers; numbers that are the same. -/
import Derived.Test.YtpmhiiembbfbeaaK7
set_option maxRecDepth 100000
set_option linter.all false
namespace Go.Proofs.Ve
open Go
def encI (l : List Int) : DV := .sl (l.map fun x => [.int .i64 x])
def sameFrom : List Int → List Int → Bool
  | [], _ => true
  | x :: xs, ys => match ys with | [] => true | y :: ys => bif x != y then false else sameFrom xs ys
theorem same_step {l m : List Int} {k : Nat} {x y : Int} (h : l[k]? = some x) (h' : m[k]? = some y) : sameFrom (l.drop k) (m.drop k) = bif x != y then false else sameFrom (l.drop (k + 1)) (m.drop (k + 1)) := by
  have hk := (List.getElem?_eq_some_iff.1 h).1
  have hm := (List.getElem?_eq_some_iff.1 h').1
  rw [List.drop_eq_getElem_cons hk, List.drop_eq_getElem_cons hm, (List.getElem?_eq_some_iff.1 h).2, (List.getElem?_eq_some_iff.1 h').2, sameFrom]
def numbers (a b : List Int) : Bool := if ((a.map fun x => [DV.int .i64 x]).length : Int) != ((b.map fun x => [DV.int .i64 x]).length : Int) then false else sameFrom a b
theorem c55 (a b : Int) (H : List (List Blk)) : CallEq X H 55 [.d (.int .i64 a), .d (.int .i64 b)] (.d (.bool (rCovers a b))) [] := by
  unfold rCovers and64
  refine callEq_of_body X_ok rfl Try.func55 rfl ?_
  conv => whnf
  repeat' (first
    | (refine And.intro (fun h_ => ?_) (fun h_ => ?_) <;> (conv => whnf))
    | (refine ⟨_, _, c91 _ _, (by first | exact True.intro | exact And.intro rfl flat_nil), ?_⟩; conv => whnf)
    | (intro z_ hz_; conv => whnf)
    | (refine ⟨[], rfl, ?_, True.intro⟩; (conv => whnf); (first | done | (simp_all only [refP, Bool.not_true, Bool.not_false, Bool.true_and, Bool.false_and, Bool.and_true, Bool.and_false, Bool.true_or, Bool.false_or, Bool.or_true, Bool.or_false, Bool.not_not, Bool.not_eq_true', Bool.not_eq_false', if_true, if_false, Bool.false_eq_true, Bool.true_eq_false, List.length_map]; done))))
theorem c46 (l : Locks) (o : Int) (hl : l.queue.length < 1000000) (H : List (List Blk)) : CallEq X H 46 [pLocks l, .d (.int .i64 o)] (.d (.int .i64 (place l.queue o))) [] := by
  unfold place
  refine callEq_of_body X_ok rfl Try.func46 rfl ?_
  conv => whnf
  refine loopV_of (fun k : Nat => ⟨[.any, .d (.int .i64 o), .ptr 0 0 0, .any, .any, .d (.int .i64 k), .any, .any, .any, .any, .any, .any, .any, .any, .any, .any, .any, .any, .any, .any, .any, .any], [.box [.d (encLocks l.held), .d (encLocks l.queue)]]⟩)
    (fun k => k ≤ l.queue.length ∧ idxOf (fun x => x.owner == o) l.queue 0 = idxOf (fun x => x.owner == o) (l.queue.drop k) k) (fun k => l.queue.length - k) 0 [0] ⟨Nat.zero_le _, rfl⟩ ?_ ?_
  · refine And.intro rfl (And.intro ?_ ?_)
    all_goals repeat' (first | exact True.intro | exact rfl | refine And.intro ?_ ?_)
  · rintro k ⟨hk, hidx⟩
    conv => whnf
    refine And.intro (fun h_ => ?_) (fun h_ => ?_)
    · conv => whnf
      have hk' : k < l.queue.length := by simpa using h_
      obtain ⟨x, hx⟩ : ∃ x, l.queue[k]? = some x := ⟨_, List.getElem?_eq_getElem hk'⟩
      have hst := idxOf_step (p := fun x => x.owner == o) hx
      refine ⟨by omega, cLock x, by simp [hx], rfl, ?_⟩
      conv => whnf
      refine And.intro (fun h1 => ?_) (fun h1 => ?_)
      · conv => whnf
        refine ⟨[], rfl, ?_, True.intro⟩
        show DV.int .i64 (k : Int) = .int .i64 (idxOf (fun x => x.owner == o) l.queue 0)
        rw [hidx, hst, h1]; rfl
      · conv => whnf
        intro z hz
        conv => whnf
        rw [wrap_small (by omega) (by omega)] at hz
        subst hz
        refine ⟨k + 1, [0], ⟨by omega, ?_⟩, by omega, And.intro rfl (And.intro ?_ ?_)⟩
        · rw [hidx, hst, h1]; rfl
        all_goals repeat' (first | exact True.intro | exact rfl | refine And.intro ?_ ?_)
    · conv => whnf
      have hk' : k = l.queue.length := by simp at h_; omega
      refine ⟨[], rfl, ?_, True.intro⟩
      show DV.int .i64 (-1) = .int .i64 (idxOf (fun x => x.owner == o) l.queue 0)
      rw [hidx, hk', List.drop_length]; rfl
theorem c16 (a b : List Int) (ha : a.length < 1000000) (H : List (List Blk)) : CallEq X H 16 [.d (encI a), .d (encI b)] (.d (.bool (numbers a b))) [] := by
  refine callEq_of_body X_ok rfl Try.func16 rfl ?_
  conv => whnf
  refine And.intro (fun h0 => ?_) (fun h0 => ?_)
  · conv => whnf
    refine ⟨[], rfl, ?_, True.intro⟩
    show DV.bool false = .bool (numbers a b)
    unfold numbers; rw [if_pos h0]
  · conv => whnf
    have hlen : a.length = b.length := by simp at h0; omega
    have hn : numbers a b = sameFrom a b := by unfold numbers; rw [h0]; rfl
    refine loopV_of (fun k : Nat => ⟨[.d (encI a), .d (encI b), .any, .any, .any, .d (.int .i64 k), .any, .any, .any, .any, .any, .any, .any, .any, .any, .any, .any, .any, .any, .any, .any, .any, .any, .any, .any, .any], []⟩)
      (fun k => k ≤ a.length ∧ numbers a b = sameFrom (a.drop k) (b.drop k)) (fun k => a.length - k) 0 [] ⟨Nat.zero_le _, hn⟩ ?_ ?_
    · refine And.intro rfl (And.intro ?_ ?_)
      all_goals repeat' (first | exact True.intro | exact rfl | refine And.intro ?_ ?_)
    · rintro k ⟨hk, hidx⟩
      conv => whnf
      refine And.intro (fun h_ => ?_) (fun h_ => ?_)
      · conv => whnf
        have hk' : k < a.length := by simpa using h_
        obtain ⟨x, hx⟩ : ∃ x, a[k]? = some x := ⟨_, List.getElem?_eq_getElem hk'⟩
        obtain ⟨y, hy⟩ : ∃ y, b[k]? = some y := ⟨_, List.getElem?_eq_getElem (by omega)⟩
        have hst := same_step hx hy
        refine ⟨by omega, [.int .i64 x], by simp [hx], rfl, ?_⟩
        conv => whnf
        refine ⟨by omega, [.int .i64 y], by simp [hy], rfl, ?_⟩
        conv => whnf
        refine And.intro (fun h1 => ?_) (fun h1 => ?_)
        · conv => whnf
          refine ⟨[], rfl, ?_, True.intro⟩
          show DV.bool false = .bool (numbers a b)
          rw [hidx, hst, h1]; rfl
        · conv => whnf
          intro z hz
          conv => whnf
          rw [wrap_small (by omega) (by omega)] at hz
          subst hz
          refine ⟨k + 1, [], ⟨by omega, ?_⟩, by omega, And.intro rfl (And.intro ?_ ?_)⟩
          · rw [hidx, hst, h1]; rfl
          all_goals repeat' (first | exact True.intro | exact rfl | refine And.intro ?_ ?_)
      · conv => whnf
        have hk' : k = a.length := by simp at h_; omega
        refine ⟨[], rfl, ?_, True.intro⟩
        show DV.bool true = .bool (numbers a b)
        rw [hidx, hk', List.drop_length]; rfl
end Go.Proofs.Ve
