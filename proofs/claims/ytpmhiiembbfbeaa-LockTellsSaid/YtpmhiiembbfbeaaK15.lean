/- The document's answer: whether locks may be; who waits, and for whom. -/
import Derived.Test.YtpmhiiembbfbeaaK14
set_option maxRecDepth 100000
set_option linter.all false
namespace Go.Proofs.Ve
open Go
def rTwice (x y : Lock) : Bool := rClash x y || (x.whole && y.whole && x.owner == y.owner && x.span.t == y.span.t)
def rHeldF (pre : List Lock) : List Lock → Bool
  | [] => true
  | x :: xs => bif rLMay x then (bif pre.any (rTwice x) then false else rHeldF (pre ++ [x]) xs) else false
theorem rHeld_step {l : List Lock} {k : Nat} {x : Lock} (h : l[k]? = some x) : rHeldF (l.take k) (l.drop k) = bif rLMay x then (bif (l.take k).any (rTwice x) then false else rHeldF (l.take (k + 1)) (l.drop (k + 1))) else false := by
  have hk := (List.getElem?_eq_some_iff.1 h).1
  have hx : l[k] = x := (List.getElem?_eq_some_iff.1 h).2
  rw [List.drop_eq_getElem_cons hk, hx, rHeldF, take_snoc' h]
def rQueF (pre : List Lock) : List Lock → Bool
  | [] => true
  | x :: xs => bif rLMay x then (bif pre.any (fun y => y.owner == x.owner) then false else rQueF (pre ++ [x]) xs) else false
theorem rQue_step {l : List Lock} {k : Nat} {x : Lock} (h : l[k]? = some x) : rQueF (l.take k) (l.drop k) = bif rLMay x then (bif (l.take k).any (fun y => y.owner == x.owner) then false else rQueF (l.take (k + 1)) (l.drop (k + 1))) else false := by
  have hk := (List.getElem?_eq_some_iff.1 h).1
  have hx : l[k] = x := (List.getElem?_eq_some_iff.1 h).2
  rw [List.drop_eq_getElem_cons hk, hx, rQueF, take_snoc' h]
def rWeak (x y : Lock) : Bool := x.whole && y.whole && x.owner == y.owner && x.span.t == y.span.t && !rCovers x.mode y.mode
def rAhead (l : Locks) (x : Lock) (k : Nat) : List Int := bitsL [anyB x (l.held ++ l.queue.take k) 0, anyB x (l.held ++ l.queue.take k) 1, anyB x (l.held ++ l.queue.take k) 2, anyB x (l.held ++ l.queue.take k) 3] 0
def rQ2 (l : Locks) : List Lock → Nat → Bool
  | [], _ => true
  | x :: xs, k => bif ((rAhead l x k).length : Int) == 0 then false else bif l.held.any (rWeak x) then false else rQ2 l xs (k + 1)
theorem rQ2_step {l : Locks} {k : Nat} {x : Lock} (h : l.queue[k]? = some x) : rQ2 l (l.queue.drop k) k = bif ((rAhead l x k).length : Int) == 0 then false else bif l.held.any (rWeak x) then false else rQ2 l (l.queue.drop (k + 1)) (k + 1) := by
  have hk := (List.getElem?_eq_some_iff.1 h).1
  rw [List.drop_eq_getElem_cons hk, (List.getElem?_eq_some_iff.1 h).2, rQ2]
def rCheck (l : Locks) : Bool := !decide ((l.held.length : Int) + l.queue.length > 40) && (rHeldF [] l.held && (rQueF [] l.queue && rQ2 l l.queue 0))
theorem any_step {α : Type} {p : α → Bool} {l : List α} {k : Nat} {x : α} (h : l[k]? = some x) : (l.drop k).any p = (p x || (l.drop (k + 1)).any p) := by
  have hk := (List.getElem?_eq_some_iff.1 h).1
  rw [List.drop_eq_getElem_cons hk, (List.getElem?_eq_some_iff.1 h).2, List.any_cons]
theorem heldF_may : ∀ (l pre : List Lock), rHeldF pre l = true → ∀ y ∈ l, rLMay y = true
  | [], _, _, y, h => by cases h
  | x :: l, pre, h, y, hy => by
    rw [rHeldF] at h
    cases h1 : rLMay x with
    | false => rw [h1] at h; cases h
    | true =>
      rw [h1] at h
      cases h2 : pre.any (rTwice x) with
      | true => rw [h2] at h; cases h
      | false =>
        rw [h2] at h
        cases hy with
        | head => exact h1
        | tail _ hy => exact heldF_may l _ h y hy
theorem queF_may : ∀ (l pre : List Lock), rQueF pre l = true → ∀ y ∈ l, rLMay y = true
  | [], _, _, y, h => by cases h
  | x :: l, pre, h, y, hy => by
    rw [rQueF] at h
    cases h1 : rLMay x with
    | false => rw [h1] at h; cases h
    | true =>
      rw [h1] at h
      cases h2 : pre.any (fun y => y.owner == x.owner) with
      | true => rw [h2] at h; cases h
      | false =>
        rw [h2] at h
        cases hy with
        | head => exact h1
        | tail _ hy => exact queF_may l _ h y hy
def bLocks (l : Locks) : Blk := .box [.d (encLocks l.held), .d (encLocks l.queue)]
theorem c20 (l : Locks) (h1 : l.held.length < 100000) (h2 : l.queue.length < 100000) (H : List (List Blk)) : CallEq X H 20 [pLocks l] (.d (.bool (rCheck l))) [] := by
  refine callEq_of_body X_ok rfl Try.func20 rfl ?_
  conv => whnf
  intro z hz
  conv => whnf
  rw [wrap_small (by (first | omega | (dsimp only; omega) | (simp; done) | (simp; omega))) (by (first | omega | (dsimp only; omega) | (simp; done) | (simp; omega))), List.length_map, List.length_map] at hz
  subst hz
  refine And.intro (fun e1 => ?_) (fun e1 => ?_) <;> (conv => whnf)
  · refine ⟨[], rfl, ?_, True.intro⟩
    show DV.bool _ = .bool _
    unfold rCheck; rw [e1]; rfl
  have k1 : rCheck l = (rHeldF [] l.held && (rQueF [] l.queue && rQ2 l l.queue 0)) := by unfold rCheck; rw [e1]; rfl
  refine loopV_of (fun k : Nat => ⟨[.any, .ptr 0 0 0, .any, .d (.int .i64 k), .any, .any, .any, .any, .any, .any, .any, .any, .any, .any, .any, .any, .any, .any, .any, .any, .any, .any, .any, .any, .any, .any, .any, .any, .any, .any, .any, .any, .any, .any, .any, .any, .any, .any, .any, .any, .any, .any, .any, .any, .any, .any, .any, .any, .any, .any, .any, .any, .any, .any, .any, .any, .any, .any, .any, .any, .any, .any, .any, .any, .any, .any, .any, .any, .any, .any, .any, .any, .any, .any, .any, .any, .any, .any, .any, .any, .any, .any, .any, .any, .any, .any, .any, .any, .any, .any, .any, .any, .any, .any, .any, .any, .any, .any, .any, .any, .any, .any, .any, .any, .any, .any, .any, .any, .any, .any, .any, .any, .any, .any, .any, .any, .any, .any, .any, .any, .any, .any, .any, .any, .any, .any, .any, .any, .any, .any, .any, .any, .any, .any, .any, .any, .any, .any, .any, .any, .any, .any, .any, .any, .any, .any, .any, .any, .any, .any, .any, .any, .any, .any, .any, .any, .any, .any, .any, .any, .any, .any, .any, .any, .any, .any, .any, .any, .any, .any, .any], [bLocks l]⟩) (fun k => k ≤ l.held.length ∧ rHeldF [] l.held = rHeldF (l.held.take k) (l.held.drop k)) (fun k => l.held.length - k) 0 [0] ⟨Nat.zero_le _, rfl⟩ ?_ ?_
  · refine And.intro rfl (And.intro ?_ ?_)
    all_goals (repeat' (first | exact True.intro | exact rfl | refine And.intro ?_ ?_))
  · rintro k ⟨hk, hidx⟩
    conv => whnf
    refine And.intro (fun h_ => ?_) (fun h_ => ?_)
    · conv => whnf
      have hk' : k < l.held.length := by simpa using h_
      obtain ⟨x, hx⟩ : ∃ x, l.held[k]? = some x := ⟨_, List.getElem?_eq_getElem hk'⟩
      have hst := rHeld_step hx
      refine ⟨by omega, cLock x, by simp [hx], rfl, ?_⟩
      conv => whnf
      refine ⟨_, _, c54 x _, True.intro, ?_⟩
      conv => whnf
      refine And.intro (fun e2 => ?_) (fun e2 => ?_) <;> (conv => whnf)
      · have e2 : rLMay x = false := by simpa using e2
        refine ⟨[], rfl, ?_, True.intro⟩
        show DV.bool false = .bool _
        rw [k1, hidx, hst, e2]; rfl
      have e2 : rLMay x = true := by simpa using e2
      rw [e2] at hst
      refine loopV_of (fun j : Nat => ⟨[.any, .ptr 0 0 0, .any, .d (.int .i64 k), .ptr 0 1 0, .any, .d (.int .i64 j), .any, .any, .any, .any, .any, .any, .any, .any, .any, .any, .any, .any, .any, .any, .any, .any, .any, .any, .any, .any, .any, .any, .any, .any, .any, .any, .any, .any, .any, .any, .any, .any, .any, .any, .any, .any, .any, .any, .any, .any, .any, .any, .any, .any, .any, .any, .any, .any, .any, .any, .any, .any, .any, .any, .any, .any, .any, .any, .any, .any, .any, .any, .any, .any, .any, .any, .any, .any, .any, .any, .any, .any, .any, .any, .any, .any, .any, .any, .any, .any, .any, .any, .any, .any, .any, .any, .any, .any, .any, .any, .any, .any, .any, .any, .any, .any, .any, .any, .any, .any, .any, .any, .any, .any, .any, .any, .any, .any, .any, .any, .any, .any, .any, .any, .any, .any, .any, .any, .any, .any, .any, .any, .any, .any, .any, .any, .any, .any, .any, .any, .any, .any, .any, .any, .any, .any, .any, .any, .any, .any, .any, .any, .any, .any, .any, .any, .any, .any, .any, .any, .any, .any, .any, .any, .any, .any, .any, .any, .any, .any, .any, .any, .any, .any], [bLocks l, bLock x]⟩) (fun j => j ≤ k ∧ (l.held.take k).any (rTwice x) = ((l.held.take k).drop j).any (rTwice x)) (fun j => k - j) 0 [0, 1] ⟨Nat.zero_le _, rfl⟩ ?_ ?_
      · refine And.intro rfl (And.intro ?_ ?_)
        all_goals (repeat' (first | exact True.intro | exact rfl | refine And.intro ?_ ?_))
      · rintro j ⟨hj, hjdx⟩
        conv => whnf
        refine And.intro (fun h_ => ?_) (fun h_ => ?_)
        · conv => whnf
          have hj' : j < k := by simpa using h_
          obtain ⟨y, hy⟩ : ∃ y, l.held[j]? = some y := ⟨_, List.getElem?_eq_getElem (by omega)⟩
          have hsj := any_step (p := rTwice x) (l := l.held.take k) (k := j) (x := y) (by rw [List.getElem?_take_of_lt hj']; exact hy)
          refine ⟨by omega, cLock y, by simp [hy], rfl, ?_⟩
          conv => whnf
          refine ⟨_, _, c22 x y _, True.intro, ?_⟩
          conv => whnf
          have out : rTwice x y = true → DV.bool false = .bool (rCheck l) := fun h => by rw [k1, hidx, hst, hjdx, hsj, h]; rfl
          have next : rTwice x y = false → (l.held.take k).any (rTwice x) = ((l.held.take k).drop (j + 1)).any (rTwice x) := fun h => by rw [hjdx, hsj, h]; rfl
          clear hsj hjdx hst hidx k1
          repeat' (refine And.intro (fun _ => ?_) (fun _ => ?_) <;> (conv => whnf))
          all_goals (first
            | (refine ⟨[], rfl, out ?_, True.intro⟩; clear out next; unfold rTwice; simp_all; done)
            | (intro z hz
               conv => whnf
               rw [wrap_small (by omega) (by omega)] at hz
               subst hz
               refine ⟨j + 1, [0, 1], ⟨by omega, next ?_⟩, by omega, And.intro rfl (And.intro ?_ ?_)⟩
               · clear out next; unfold rTwice; simp_all; done
               all_goals (repeat' (first | exact True.intro | exact rfl | refine And.intro ?_ ?_))))
        · conv => whnf
          have hj' : j = k := by simp at h_; omega
          have hany : (l.held.take k).any (rTwice x) = false := by rw [hjdx, hj', List.drop_of_length_le (by rw [List.length_take]; omega)]; rfl
          intro z hz
          conv => whnf
          rw [wrap_small (by omega) (by omega)] at hz
          subst hz
          refine ⟨k + 1, [0], ⟨by omega, ?_⟩, by omega, And.intro rfl (And.intro ?_ ?_)⟩
          · rw [hidx, hst, hany]; rfl
          all_goals (repeat' (first | exact True.intro | exact rfl | refine And.intro ?_ ?_))
    · conv => whnf
      have hk' : k = l.held.length := by simp at h_; omega
      have hh : rHeldF [] l.held = true := by rw [hidx, hk', List.drop_length]; rfl
      have k2 : rCheck l = (rQueF [] l.queue && rQ2 l l.queue 0) := by rw [k1, hh]; rfl
      have o1 : ∀ y ∈ l.held, ownOk y := fun y hy => may_own (heldF_may _ _ hh y hy)
      clear hidx k1
      refine loopV_of (fun k : Nat => ⟨[.any, .ptr 0 0 0, .any, .any, .any, .any, .any, .any, .any, .d (.int .i64 k), .any, .any, .any, .any, .any, .any, .any, .any, .any, .any, .any, .any, .any, .any, .any, .any, .any, .any, .any, .any, .any, .any, .any, .any, .any, .any, .any, .any, .any, .any, .any, .any, .any, .any, .any, .any, .any, .any, .any, .any, .any, .any, .any, .any, .any, .any, .any, .any, .any, .any, .any, .any, .any, .any, .any, .any, .any, .any, .any, .any, .any, .any, .any, .any, .any, .any, .any, .any, .any, .any, .any, .any, .any, .any, .any, .any, .any, .any, .any, .any, .any, .any, .any, .any, .any, .any, .any, .any, .any, .any, .any, .any, .any, .any, .any, .any, .any, .any, .any, .any, .any, .any, .any, .any, .any, .any, .any, .any, .any, .any, .any, .any, .any, .any, .any, .any, .any, .any, .any, .any, .any, .any, .any, .any, .any, .any, .any, .any, .any, .any, .any, .any, .any, .any, .any, .any, .any, .any, .any, .any, .any, .any, .any, .any, .any, .any, .any, .any, .any, .any, .any, .any, .any, .any, .any, .any, .any, .any, .any, .any, .any], [bLocks l]⟩) (fun k => k ≤ l.queue.length ∧ rQueF [] l.queue = rQueF (l.queue.take k) (l.queue.drop k)) (fun k => l.queue.length - k) 0 [0] ⟨Nat.zero_le _, rfl⟩ ?_ ?_
      · refine And.intro rfl (And.intro ?_ ?_)
        all_goals (repeat' (first | exact True.intro | exact rfl | refine And.intro ?_ ?_))
      · rintro k ⟨hk, hidx⟩
        conv => whnf
        refine And.intro (fun h_ => ?_) (fun h_ => ?_)
        · conv => whnf
          have hk' : k < l.queue.length := by simpa using h_
          obtain ⟨x, hx⟩ : ∃ x, l.queue[k]? = some x := ⟨_, List.getElem?_eq_getElem hk'⟩
          have hst := rQue_step hx
          refine ⟨by omega, cLock x, by simp [hx], rfl, ?_⟩
          conv => whnf
          refine ⟨_, _, c54 x _, True.intro, ?_⟩
          conv => whnf
          refine And.intro (fun e2 => ?_) (fun e2 => ?_) <;> (conv => whnf)
          · have e2 : rLMay x = false := by simpa using e2
            refine ⟨[], rfl, ?_, True.intro⟩
            show DV.bool false = .bool _
            rw [k2, hidx, hst, e2]; rfl
          have e2 : rLMay x = true := by simpa using e2
          rw [e2] at hst
          refine loopV_of (fun j : Nat => ⟨[.any, .ptr 0 0 0, .any, .any, .any, .any, .any, .any, .any, .d (.int .i64 k), .any, .d (.int .i64 j), .any, .any, .any, .any, .any, .any, .any, .any, .any, .any, .any, .any, .any, .any, .any, .any, .any, .any, .any, .any, .any, .any, .any, .any, .any, .any, .any, .any, .any, .any, .any, .any, .any, .any, .any, .any, .any, .any, .any, .any, .any, .any, .any, .any, .any, .any, .any, .any, .any, .any, .any, .any, .any, .any, .any, .any, .any, .any, .any, .any, .any, .any, .any, .any, .any, .any, .any, .any, .any, .any, .any, .any, .any, .any, .any, .any, .any, .any, .any, .any, .any, .any, .any, .any, .any, .any, .any, .any, .any, .any, .any, .any, .any, .any, .any, .any, .any, .any, .any, .any, .any, .any, .any, .any, .any, .any, .any, .any, .any, .any, .any, .any, .any, .any, .any, .any, .any, .any, .any, .any, .any, .any, .any, .any, .any, .any, .any, .any, .any, .any, .any, .any, .any, .any, .any, .any, .any, .any, .any, .any, .any, .any, .any, .any, .any, .any, .any, .any, .any, .any, .any, .any, .any, .any, .any, .any, .any, .any, .any], [bLocks l]⟩) (fun j => j ≤ k ∧ (l.queue.take k).any (fun y => y.owner == x.owner) = ((l.queue.take k).drop j).any (fun y => y.owner == x.owner)) (fun j => k - j) 0 [0] ⟨Nat.zero_le _, rfl⟩ ?_ ?_
          · refine And.intro rfl (And.intro ?_ ?_)
            all_goals (repeat' (first | exact True.intro | exact rfl | refine And.intro ?_ ?_))
          · rintro j ⟨hj, hjdx⟩
            conv => whnf
            refine And.intro (fun h_ => ?_) (fun h_ => ?_)
            · conv => whnf
              have hj' : j < k := by simpa using h_
              obtain ⟨y, hy⟩ : ∃ y, l.queue[j]? = some y := ⟨_, List.getElem?_eq_getElem (by omega)⟩
              have hsj := any_step (p := fun y : Lock => y.owner == x.owner) (l := l.queue.take k) (k := j) (x := y) (by rw [List.getElem?_take_of_lt hj']; exact hy)
              refine ⟨by omega, cLock y, by simp [hy], rfl, ?_⟩
              conv => whnf
              refine ⟨by omega, cLock x, by simp [hx], rfl, ?_⟩
              conv => whnf
              refine And.intro (fun q => ?_) (fun q => ?_) <;> (conv => whnf)
              · refine ⟨[], rfl, ?_, True.intro⟩
                show DV.bool false = .bool _
                rw [k2, hidx, hst, hjdx, hsj, q]; rfl
              · intro z hz
                conv => whnf
                rw [wrap_small (by omega) (by omega)] at hz
                subst hz
                refine ⟨j + 1, [0], ⟨by omega, by rw [hjdx, hsj, q]; rfl⟩, by omega, And.intro rfl (And.intro ?_ ?_)⟩
                all_goals (repeat' (first | exact True.intro | exact rfl | refine And.intro ?_ ?_))
            · conv => whnf
              have hj' : j = k := by simp at h_; omega
              have hany : (l.queue.take k).any (fun y => y.owner == x.owner) = false := by rw [hjdx, hj', List.drop_of_length_le (by rw [List.length_take]; omega)]; rfl
              intro z hz
              conv => whnf
              rw [wrap_small (by omega) (by omega)] at hz
              subst hz
              refine ⟨k + 1, [0], ⟨by omega, ?_⟩, by omega, And.intro rfl (And.intro ?_ ?_)⟩
              · rw [hidx, hst, hany]; rfl
              all_goals (repeat' (first | exact True.intro | exact rfl | refine And.intro ?_ ?_))
        · conv => whnf
          have hk' : k = l.queue.length := by simp at h_; omega
          have hh : rQueF [] l.queue = true := by rw [hidx, hk', List.drop_length]; rfl
          have k3 : rCheck l = rQ2 l l.queue 0 := by rw [k2, hh]; rfl
          have o2 : ∀ y ∈ l.queue, ownOk y := fun y hy => may_own (queF_may _ _ hh y hy)
          clear hidx k2
          refine loopV_of (fun k : Nat => ⟨[.any, .ptr 0 0 0, .any, .any, .any, .any, .any, .any, .any, .any, .any, .any, .d (.int .i64 k), .any, .any, .any, .any, .any, .any, .any, .any, .any, .any, .any, .any, .any, .any, .any, .any, .any, .any, .any, .any, .any, .any, .any, .any, .any, .any, .any, .any, .any, .any, .any, .any, .any, .any, .any, .any, .any, .any, .any, .any, .any, .any, .any, .any, .any, .any, .any, .any, .any, .any, .any, .any, .any, .any, .any, .any, .any, .any, .any, .any, .any, .any, .any, .any, .any, .any, .any, .any, .any, .any, .any, .any, .any, .any, .any, .any, .any, .any, .any, .any, .any, .any, .any, .any, .any, .any, .any, .any, .any, .any, .any, .any, .any, .any, .any, .any, .any, .any, .any, .any, .any, .any, .any, .any, .any, .any, .any, .any, .any, .any, .any, .any, .any, .any, .any, .any, .any, .any, .any, .any, .any, .any, .any, .any, .any, .any, .any, .any, .any, .any, .any, .any, .any, .any, .any, .any, .any, .any, .any, .any, .any, .any, .any, .any, .any, .any, .any, .any, .any, .any, .any, .any, .any, .any, .any, .any, .any, .any], [bLocks l]⟩) (fun k => k ≤ l.queue.length ∧ rQ2 l l.queue 0 = rQ2 l (l.queue.drop k) k) (fun k => l.queue.length - k) 0 [0] ⟨Nat.zero_le _, rfl⟩ ?_ ?_
          · refine And.intro rfl (And.intro ?_ ?_)
            all_goals (repeat' (first | exact True.intro | exact rfl | refine And.intro ?_ ?_))
          · rintro k ⟨hk, hidx⟩
            conv => whnf
            refine And.intro (fun h_ => ?_) (fun h_ => ?_)
            · conv => whnf
              have hk' : k < l.queue.length := by simpa using h_
              obtain ⟨x, hx⟩ : ∃ x, l.queue[k]? = some x := ⟨_, List.getElem?_eq_getElem hk'⟩
              have hst := rQ2_step hx
              refine ⟨_, _, c48 l x k hx h1 h2 o1 o2 _, True.intro, ?_⟩
              conv => whnf
              refine ⟨_, _, c47 _ _ _ _ _, True.intro, ?_⟩
              conv => whnf
              have e0 : (((rAhead l x k).map fun x => [DV.int .i64 x]).length : Int) = ((rAhead l x k).length : Int) := by simp
              refine And.intro (fun e3 => ?_) (fun e3 => ?_) <;> (conv => whnf)
              · have e3 : (((rAhead l x k).map fun x => [DV.int .i64 x]).length : Int) == 0 := e3
                rw [e0] at e3
                refine ⟨[], rfl, ?_, True.intro⟩
                show DV.bool false = .bool _
                rw [k3, hidx, hst, e3]; rfl
              have e3 : ((((rAhead l x k).map fun x => [DV.int .i64 x]).length : Int) == 0) = false := e3
              rw [e0] at e3
              rw [e3] at hst
              refine loopV_of (fun j : Nat => ⟨[.any, .ptr 0 0 0, .any, .any, .any, .any, .any, .any, .any, .any, .any, .any, .d (.int .i64 k), .d (.int .i64 j), .any, .any, .any, .any, .any, .any, .any, .any, .any, .any, .any, .any, .any, .any, .any, .any, .any, .any, .any, .any, .any, .any, .any, .any, .any, .any, .any, .any, .any, .any, .any, .any, .any, .any, .any, .any, .any, .any, .any, .any, .any, .any, .any, .any, .any, .any, .any, .any, .any, .any, .any, .any, .any, .any, .any, .any, .any, .any, .any, .any, .any, .any, .any, .any, .any, .any, .any, .any, .any, .any, .any, .any, .any, .any, .any, .any, .any, .any, .any, .any, .any, .any, .any, .any, .any, .any, .any, .any, .any, .any, .any, .any, .any, .any, .any, .any, .any, .any, .any, .any, .any, .any, .any, .any, .any, .any, .any, .any, .any, .any, .any, .any, .any, .any, .any, .any, .any, .any, .any, .any, .any, .any, .any, .any, .any, .any, .any, .any, .any, .any, .any, .any, .any, .any, .any, .any, .any, .any, .any, .any, .any, .any, .any, .any, .any, .any, .any, .any, .any, .any, .any, .any, .any, .any, .any, .any, .any], [bLocks l]⟩) (fun j => j ≤ l.held.length ∧ l.held.any (rWeak x) = (l.held.drop j).any (rWeak x)) (fun j => l.held.length - j) 0 [0] ⟨Nat.zero_le _, rfl⟩ ?_ ?_
              · refine And.intro rfl (And.intro ?_ ?_)
                all_goals (repeat' (first | exact True.intro | exact rfl | refine And.intro ?_ ?_))
              · rintro j ⟨hj, hjdx⟩
                conv => whnf
                refine And.intro (fun h_ => ?_) (fun h_ => ?_)
                · conv => whnf
                  have hj' : j < l.held.length := by simpa using h_
                  obtain ⟨y, hy⟩ : ∃ y, l.held[j]? = some y := ⟨_, List.getElem?_eq_getElem (by omega)⟩
                  have hsj := any_step (p := rWeak x) hy
                  refine ⟨by omega, cLock x, by simp [hx], rfl, ?_⟩
                  conv => whnf
                  refine ⟨by omega, cLock y, by simp [hy], rfl, ?_⟩
                  conv => whnf
                  have out : rWeak x y = true → DV.bool false = .bool (rCheck l) := fun h => by rw [k3, hidx, hst, hjdx, hsj, h]; rfl
                  have next : rWeak x y = false → l.held.any (rWeak x) = (l.held.drop (j + 1)).any (rWeak x) := fun h => by rw [hjdx, hsj, h]; rfl
                  clear hsj hjdx hst hidx k3
                  repeat' (first | (refine And.intro (fun _ => ?_) (fun _ => ?_) <;> (conv => whnf)) | (refine ⟨_, _, c55 _ _ _, True.intro, ?_⟩; conv => whnf))
                  all_goals (first
                    | (refine ⟨[], rfl, out ?_, True.intro⟩; clear out next; unfold rWeak; simp_all; done)
                    | (intro z hz
                       conv => whnf
                       rw [wrap_small (by omega) (by omega)] at hz
                       subst hz
                       refine ⟨j + 1, [0], ⟨by omega, next ?_⟩, by omega, And.intro rfl (And.intro ?_ ?_)⟩
                       · clear out next; unfold rWeak; simp_all; done
                       all_goals (repeat' (first | exact True.intro | exact rfl | refine And.intro ?_ ?_))))
                · conv => whnf
                  have hj' : j = l.held.length := by simp at h_; omega
                  have hany : l.held.any (rWeak x) = false := by rw [hjdx, hj', List.drop_length]; rfl
                  intro z hz
                  conv => whnf
                  rw [wrap_small (by omega) (by omega)] at hz
                  subst hz
                  refine ⟨k + 1, [0], ⟨by omega, ?_⟩, by omega, And.intro rfl (And.intro ?_ ?_)⟩
                  · rw [hidx, hst, hany]; rfl
                  all_goals (repeat' (first | exact True.intro | exact rfl | refine And.intro ?_ ?_))
            · conv => whnf
              have hk' : k = l.queue.length := by simp at h_; omega
              refine ⟨[], rfl, ?_, True.intro⟩
              show DV.bool true = .bool _
              rw [k3, hidx, hk', List.drop_length]; rfl
theorem rCheck_own {l : Locks} (h : rCheck l = true) : (∀ y ∈ l.held, ownOk y) ∧ ∀ y ∈ l.queue, ownOk y := by
  unfold rCheck at h
  simp only [Bool.and_eq_true] at h
  exact ⟨fun y hy => may_own (heldF_may _ _ h.2.1 y hy), fun y hy => may_own (queF_may _ _ h.2.2.1 y hy)⟩
def rWaits (l : Locks) (o : Int) : Bool := rCheck l && decide (place l.queue o ≥ 0)
theorem c24 (l : Locks) (o : Int) (h1 : l.held.length < 100000) (h2 : l.queue.length < 100000) (H : List (List Blk)) : CallEq X H 24 [pLocks l, .d (.int .i64 o)] (.d (.bool (rWaits l o))) [] := by
  unfold rWaits
  refine callEq_of_body X_ok rfl Try.func24 rfl ?_
  conv => whnf
  repeat' (first
    | (refine And.intro (fun h_ => ?_) (fun h_ => ?_) <;> (conv => whnf))
    | (refine ⟨_, _, c20 l h1 h2 _, (by first | exact True.intro | exact And.intro rfl flat_nil), ?_⟩; conv => whnf)
    | (refine ⟨_, _, c46 l o (by omega) _, (by first | exact True.intro | exact And.intro rfl flat_nil), ?_⟩; conv => whnf)
    | (intro z_ hz_; conv => whnf)
    | (refine ⟨[], rfl, ?_, True.intro⟩; (conv => whnf); (first | done | (simp_all only [refP, Bool.not_true, Bool.not_false, Bool.true_and, Bool.false_and, Bool.and_true, Bool.and_false, Bool.true_or, Bool.false_or, Bool.or_true, Bool.or_false, Bool.not_not, Bool.not_eq_true', Bool.not_eq_false', if_true, if_false, Bool.false_eq_true, Bool.true_eq_false, List.length_map]; done))))
def rBlockers (l : Locks) (o : Int) : List Int := if rWaits l o then (match l.queue[(place l.queue o).toNat]? with | some y => rAhead l y (place l.queue o).toNat | none => []) else []
theorem c18 (l : Locks) (o : Int) (h1 : l.held.length < 100000) (h2 : l.queue.length < 100000) (H : List (List Blk)) : CallEq X H 18 [pLocks l, .d (.int .i64 o)] (.d (encI (rBlockers l o))) [] := by
  refine callEq_of_body X_ok rfl Try.func18 rfl ?_
  conv => whnf
  refine ⟨_, _, c20 l h1 h2 _, True.intro, ?_⟩
  conv => whnf
  have no : rWaits l o = false → DV.sl [] = encI (rBlockers l o) := fun h => by unfold rBlockers; rw [h]; rfl
  refine And.intro (fun q1 => ?_) (fun q1 => ?_) <;> (conv => whnf)
  rotate_left
  · refine ⟨[], rfl, no ?_, True.intro⟩
    have q1 : rCheck l = false := by simpa using q1
    unfold rWaits; rw [q1]; rfl
  · have q1 : rCheck l = true := by simpa using q1
    refine ⟨_, _, c46 l o (by omega) _, True.intro, ?_⟩
    conv => whnf
    refine And.intro (fun q2 => ?_) (fun q2 => ?_) <;> (conv => whnf)
    · refine ⟨[], rfl, no ?_, True.intro⟩
      unfold rWaits; rw [q1]; simp at q2 ⊢; omega
    · have hp : place l.queue o ≥ 0 := by simp at q2; omega
      have hw : rWaits l o = true := by unfold rWaits; rw [q1]; simp; omega
      obtain ⟨y, hy, ho⟩ := place_at hp
      obtain ⟨o1, o2⟩ := rCheck_own q1
      refine ⟨_, _, c46 l o (by omega) _, True.intro, ?_⟩
      conv => whnf
      have hc := fun H => c48 l y (place l.queue o).toNat hy h1 h2 o1 o2 H
      rw [show (((place l.queue o).toNat : Nat) : Int) = place l.queue o by omega] at hc
      refine ⟨_, _, hc _, True.intro, ?_⟩
      conv => whnf
      refine ⟨_, _, c47 _ _ _ _ _, True.intro, ?_⟩
      conv => whnf
      refine ⟨[], rfl, ?_, True.intro⟩
      show encI _ = encI (rBlockers l o)
      unfold rBlockers; rw [hw, if_pos rfl, hy]; rfl
end Go.Proofs.Ve
