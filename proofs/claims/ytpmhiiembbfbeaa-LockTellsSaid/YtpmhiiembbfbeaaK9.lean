/- A few locks, of short spans. -/
import Derived.Test.YtpmhiiembbfbeaaK8
set_option maxRecDepth 100000
set_option linter.all false
namespace Go.Proofs.Ve
open Go
def lLong (x : Lock) : Bool := decide (((x.span.lo.map fun b => [DV.int .u8 b.toNat]).length : Int) > 100) || decide (((x.span.hi.map fun b => [DV.int .u8 b.toNat]).length : Int) > 100)
def noLong : List Lock → Bool
  | [] => true
  | x :: xs => bif lLong x then false else noLong xs
theorem noLong_step {l : List Lock} {k : Nat} {x : Lock} (h : l[k]? = some x) : noLong (l.drop k) = bif lLong x then false else noLong (l.drop (k + 1)) := by
  have hk := (List.getElem?_eq_some_iff.1 h).1
  rw [List.drop_eq_getElem_cons hk, (List.getElem?_eq_some_iff.1 h).2, noLong]
def few (l : Locks) : Bool := if decide (((l.held.map cLock).length : Int) > 60) || decide (((l.queue.map cLock).length : Int) > 60) then false else bif noLong l.held then noLong l.queue else false
theorem long_a {x : Lock} (h : decide (((x.span.lo.map fun b => [DV.int .u8 b.toNat]).length : Int) > 100) = true) : lLong x = true := by unfold lLong; rw [h]; rfl
theorem long_b {x : Lock} (h : decide (((x.span.lo.map fun b => [DV.int .u8 b.toNat]).length : Int) > 100) = false) (h' : decide (((x.span.hi.map fun b => [DV.int .u8 b.toNat]).length : Int) > 100) = true) : lLong x = true := by unfold lLong; rw [h, h']; rfl
theorem long_c {x : Lock} (h : decide (((x.span.lo.map fun b => [DV.int .u8 b.toNat]).length : Int) > 100) = false) (h' : decide (((x.span.hi.map fun b => [DV.int .u8 b.toNat]).length : Int) > 100) = false) : lLong x = false := by unfold lLong; rw [h, h']; rfl
theorem c14 (l : Locks) (H : List (List Blk)) : CallEq X H 14 [pLocks l] (.d (.bool (few l))) [] := by
  refine callEq_of_body X_ok rfl Try.func14 rfl ?_
  conv => whnf
  have fin : decide (((l.held.map cLock).length : Int) > 60) = false → decide (((l.queue.map cLock).length : Int) > 60) = false → few l = bif noLong l.held then noLong l.queue else false := fun h1 h2 => by unfold few; rw [h1, h2]; rfl
  refine And.intro (fun h1 => ?_) (fun h1 => ?_) <;> (conv => whnf)
  · refine And.intro (fun h2 => ?_) (fun h2 => ?_) <;> (conv => whnf)
    · refine ⟨[], rfl, ?_, True.intro⟩
      show DV.bool false = .bool (few l)
      unfold few; rw [h1, h2]; rfl
    · have hf := fin h1 h2
      have b1 : l.held.length ≤ 60 := by simp at h1; omega
      have b2 : l.queue.length ≤ 60 := by simp at h2; omega
      refine loopV_of (fun k : Nat => ⟨[.any, .ptr 0 0 0, .any, .d (.int .i64 k), .any, .any, .any, .any, .any, .any, .any, .any, .any, .any, .any, .any, .any, .any, .any, .any, .any, .any, .any, .any, .any, .any, .any, .any, .any, .any, .any, .any, .any, .any, .any, .any, .any, .any, .any, .any, .any, .any, .any, .any, .any, .any, .any, .any, .any, .any, .any, .any, .any, .any, .any, .any, .any, .any, .any, .any, .any, .any, .any, .any, .any, .any, .any, .any, .any], [.box [.d (encLocks l.held), .d (encLocks l.queue)]]⟩)
        (fun k => k ≤ l.held.length ∧ noLong l.held = noLong (l.held.drop k)) (fun k => l.held.length - k) 0 [0] ⟨Nat.zero_le _, rfl⟩ ?_ ?_
      · refine And.intro rfl (And.intro ?_ ?_)
        all_goals repeat' (first | exact True.intro | exact rfl | refine And.intro ?_ ?_)
      · rintro k ⟨hk, hidx⟩
        conv => whnf
        refine And.intro (fun h_ => ?_) (fun h_ => ?_)
        · conv => whnf
          have hk' : k < l.held.length := by simpa using h_
          obtain ⟨x, hx⟩ : ∃ x, l.held[k]? = some x := ⟨_, List.getElem?_eq_getElem hk'⟩
          have hst := noLong_step hx
          have out : lLong x = true → DV.bool false = .bool (few l) := fun h => by rw [hf, hidx, hst, h]; rfl
          have next : lLong x = false → noLong l.held = noLong (l.held.drop (k + 1)) := fun h => by rw [hidx, hst, h]; rfl
          refine ⟨by omega, cLock x, by simp [hx], rfl, ?_⟩
          conv => whnf
          refine And.intro (fun h3 => ?_) (fun h3 => ?_) <;> (conv => whnf)
          · refine ⟨by omega, cLock x, by simp [hx], rfl, ?_⟩
            conv => whnf
            refine And.intro (fun h4 => ?_) (fun h4 => ?_) <;> (conv => whnf)
            · exact ⟨[], rfl, out (long_b h3 h4), True.intro⟩
            · intro z hz
              conv => whnf
              rw [wrap_small (by omega) (by omega)] at hz
              subst hz
              refine ⟨k + 1, [0], ⟨by omega, next (long_c h3 h4)⟩, by omega, And.intro rfl (And.intro ?_ ?_)⟩
              all_goals repeat' (first | exact True.intro | exact rfl | refine And.intro ?_ ?_)
          · exact ⟨[], rfl, out (long_a h3), True.intro⟩
        · conv => whnf
          have hk' : k = l.held.length := by simp at h_; omega
          have hh : noLong l.held = true := by rw [hidx, hk', List.drop_length]; rfl
          have hf2 : few l = noLong l.queue := by rw [hf, hh]; rfl
          refine loopV_of (fun k : Nat => ⟨[.any, .ptr 0 0 0, .any, .any, .d (.int .i64 k), .any, .any, .any, .any, .any, .any, .any, .any, .any, .any, .any, .any, .any, .any, .any, .any, .any, .any, .any, .any, .any, .any, .any, .any, .any, .any, .any, .any, .any, .any, .any, .any, .any, .any, .any, .any, .any, .any, .any, .any, .any, .any, .any, .any, .any, .any, .any, .any, .any, .any, .any, .any, .any, .any, .any, .any, .any, .any, .any, .any, .any, .any, .any, .any], [.box [.d (encLocks l.held), .d (encLocks l.queue)]]⟩)
            (fun k => k ≤ l.queue.length ∧ few l = noLong (l.queue.drop k)) (fun k => l.queue.length - k) 0 [0] ⟨Nat.zero_le _, hf2⟩ ?_ ?_
          · refine And.intro rfl (And.intro ?_ ?_)
            all_goals repeat' (first | exact True.intro | exact rfl | refine And.intro ?_ ?_)
          · rintro k ⟨hk, hidx⟩
            conv => whnf
            refine And.intro (fun h_ => ?_) (fun h_ => ?_)
            · conv => whnf
              have hk' : k < l.queue.length := by simpa using h_
              obtain ⟨x, hx⟩ : ∃ x, l.queue[k]? = some x := ⟨_, List.getElem?_eq_getElem hk'⟩
              have hst := noLong_step hx
              have out : lLong x = true → DV.bool false = .bool (few l) := fun h => by rw [hidx, hst, h]; rfl
              have next : lLong x = false → few l = noLong (l.queue.drop (k + 1)) := fun h => by rw [hidx, hst, h]; rfl
              refine ⟨by omega, cLock x, by simp [hx], rfl, ?_⟩
              conv => whnf
              refine And.intro (fun h3 => ?_) (fun h3 => ?_) <;> (conv => whnf)
              · refine ⟨by omega, cLock x, by simp [hx], rfl, ?_⟩
                conv => whnf
                refine And.intro (fun h4 => ?_) (fun h4 => ?_) <;> (conv => whnf)
                · exact ⟨[], rfl, out (long_b h3 h4), True.intro⟩
                · intro z hz
                  conv => whnf
                  rw [wrap_small (by omega) (by omega)] at hz
                  subst hz
                  refine ⟨k + 1, [0], ⟨by omega, next (long_c h3 h4)⟩, by omega, And.intro rfl (And.intro ?_ ?_)⟩
                  all_goals repeat' (first | exact True.intro | exact rfl | refine And.intro ?_ ?_)
              · exact ⟨[], rfl, out (long_a h3), True.intro⟩
            · conv => whnf
              have hk' : k = l.queue.length := by simp at h_; omega
              refine ⟨[], rfl, ?_, True.intro⟩
              show DV.bool true = .bool (few l)
              rw [hidx, hk', List.drop_length]; rfl
  · refine ⟨[], rfl, ?_, True.intro⟩
    show DV.bool false = .bool (few l)
    unfold few; rw [h1]; rfl
end Go.Proofs.Ve
