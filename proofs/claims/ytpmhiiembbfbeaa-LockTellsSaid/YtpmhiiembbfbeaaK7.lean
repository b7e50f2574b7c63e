/- Whether the locks held are single: a contract. -/
import Derived.Test.YtpmhiiembbfbeaaK6
set_option maxRecDepth 100000
set_option linter.all false
namespace Go.Proofs.Ve
open Go
def singleFrom (pre : List Lock) : List Lock → Bool
  | [] => true
  | x :: xs => bif pre.any (lTwice x) then false else singleFrom (pre ++ [x]) xs
theorem single_step {l : List Lock} {k : Nat} {x : Lock} (h : l[k]? = some x) : singleFrom (l.take k) (l.drop k) = bif (l.take k).any (lTwice x) then false else singleFrom (l.take (k + 1)) (l.drop (k + 1)) := by
  have hk := (List.getElem?_eq_some_iff.1 h).1
  have hx : l[k] = x := (List.getElem?_eq_some_iff.1 h).2
  rw [List.drop_eq_getElem_cons hk, hx, singleFrom, List.take_add_one, h]; rfl
theorem c52 (l : Locks) (hl : l.held.length < 1000000) (H : List (List Blk)) : CallEq X H 52 [pLocks l] (.d (.bool (singleFrom [] l.held))) [] := by
  refine callEq_of_body X_ok rfl Try.func52 rfl ?_
  conv => whnf
  refine loopV_of (fun k : Nat => ⟨[.any, .ptr 0 0 0, .any, .any, .any, .any, .any, .any, .d (encLocks l.held), .d (.int .i64 (l.held.map cLock).length), .d (.int .i64 k), .any, .any, .any, .any, .any, .any, .any, .any, .any, .any, .any, .any, .any], [.box [.d (encLocks l.held), .d (encLocks l.queue)]]⟩)
    (fun k => k ≤ l.held.length ∧ singleFrom [] l.held = singleFrom (l.held.take k) (l.held.drop k)) (fun k => l.held.length - k) 0 [0] ⟨Nat.zero_le _, rfl⟩ ?_ ?_
  · refine And.intro rfl (And.intro ?_ ?_)
    all_goals repeat' (first | exact True.intro | exact rfl | refine And.intro ?_ ?_)
  · rintro k ⟨hk, hidx⟩
    conv => whnf
    refine And.intro (fun h_ => ?_) (fun h_ => ?_)
    · conv => whnf
      have hk' : k < l.held.length := by simpa using h_
      obtain ⟨x, hx⟩ : ∃ x, l.held[k]? = some x := ⟨_, List.getElem?_eq_getElem hk'⟩
      have hst := single_step hx
      refine ⟨by omega, cLock x, by simp [hx], rfl, ?_⟩
      conv => whnf
      refine ⟨by omega, by simp; omega, ?_⟩
      conv => whnf
      have hc := fun (B0 : Blk) (rest : List Blk) (H : List (List Blk)) => c51d (lTwice x) 0 1 (l.held.take k) (by simp; omega) ((B0 :: bLock x :: rest) :: H) (fun y _ T T' => c89 x y T T' B0 rest H)
      rw [show encLocks (l.held.take k) = .sl (List.take (k : Int).toNat (l.held.map cLock)) by rw [encLocks, List.map_take]; rfl] at hc
      refine ⟨_, _, hc _ _ _, True.intro, ?_⟩
      conv => whnf
      refine And.intro (fun h1 => ?_) (fun h1 => ?_)
      · conv => whnf
        refine ⟨[], rfl, ?_, True.intro⟩
        show DV.bool false = .bool (singleFrom [] l.held)
        rw [hidx, hst, h1]; rfl
      · conv => whnf
        intro z hz
        conv => whnf
        rw [wrap_small (by omega) (by omega)] at hz
        subst hz
        refine ⟨k + 1, [0], ⟨by omega, ?_⟩, by omega, And.intro rfl (And.intro ?_ ?_)⟩
        · rw [hidx, hst, h1]; rfl
        all_goals repeat' (first | exact True.intro | exact rfl | refine And.intro ?_ ?_)
    · conv => whnf
      have hk' : k = l.held.length := by simp at h_; omega
      refine ⟨[], rfl, ?_, True.intro⟩
      show DV.bool true = .bool (singleFrom [] l.held)
      rw [hidx, hk', List.drop_length]; rfl
end Go.Proofs.Ve
