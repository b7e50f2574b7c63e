/- LockTells: its body tells true. -/
import Derived.Test.YtpmhiiembbfbeaaK20
set_option maxRecDepth 100000
set_option linter.all false
namespace Go.Proofs.Ve
open Go
theorem few_le {l : Locks} (h : few l = true) : l.held.length ≤ 60 ∧ l.queue.length ≤ 60 := by
  unfold few at h
  split at h
  · cases h
  · next hn => simp at hn; omega
theorem c3 (l : Locks) (a b : Lock) (o : Int) (H : List (List Blk)) : CallEq X H 3 [pLocks l, pLock a, pLock b, .d (.int .i64 o)] (.d (.bool true)) [] := by
  cases hf : few l with
  | false =>
    have hw := fun H => hf ▸ c14 l H
    refine callEq_of_body X_ok rfl Try.func3 rfl ?_
    conv => whnf
    repeat' (first
      | (refine And.intro (fun h_ => ?_) (fun h_ => ?_) <;> (conv => whnf))
      | (refine ⟨_, _, c13 _, (by first | exact True.intro | exact And.intro rfl flat_nil), ?_⟩; conv => whnf)
      | (refine ⟨_, _, hw _, (by first | exact True.intro | exact And.intro rfl flat_nil), ?_⟩; conv => whnf)
      | (refine ⟨_, _, c15 a _, (by first | exact True.intro | exact And.intro rfl flat_nil), ?_⟩; conv => whnf)
      | (refine ⟨_, _, c15 b _, (by first | exact True.intro | exact And.intro rfl flat_nil), ?_⟩; conv => whnf)
      | (intro z_ hz_; conv => whnf)
      | (refine ⟨[], rfl, ?_, True.intro⟩; (conv => whnf); (first | done | ((first | exact rfl | (exfalso; simp at h_; done)); done))))
    simp_all
  | true =>
    have ⟨hl1, hl2⟩ := few_le hf
    have h1 : l.held.length < 100000 := by omega
    have h2 : l.queue.length < 100000 := by omega
    have hlen : (rBlockers l o).length < 1000000 := by
      unfold rBlockers
      split
      · split
        · unfold rAhead
          exact Nat.lt_of_le_of_lt (bitsL_len _ _) (by simp)
        · decide
      · decide
    have hb := fun H => lblockers_eq l o ▸ c17 l o h1 h2 H
    have hn := fun H => numbers_self (rBlockers l o) ▸ c16 (rBlockers l o) (rBlockers l o) hlen H
    have hc := fun H => lcheck_eq l ▸ c19 l h1 h2 H
    have hx := fun H => clash_eq a b ▸ c21 a b H
    have hw := fun H => lwaits_eq l o ▸ c23 l o h1 h2 H
    refine callEq_of_body X_ok rfl Try.func3 rfl ?_
    conv => whnf
    repeat' (first
      | (refine And.intro (fun h_ => ?_) (fun h_ => ?_) <;> (conv => whnf))
      | (refine ⟨_, _, c13 _, (by first | exact True.intro | exact And.intro rfl flat_nil), ?_⟩; conv => whnf)
      | (refine ⟨_, _, c14 l _, (by first | exact True.intro | exact And.intro rfl flat_nil), ?_⟩; conv => whnf)
      | (refine ⟨_, _, c15 a _, (by first | exact True.intro | exact And.intro rfl flat_nil), ?_⟩; conv => whnf)
      | (refine ⟨_, _, c15 b _, (by first | exact True.intro | exact And.intro rfl flat_nil), ?_⟩; conv => whnf)
      | (refine ⟨_, _, hb _, (by first | exact True.intro | exact And.intro rfl flat_nil), ?_⟩; conv => whnf)
      | (refine ⟨_, _, c18 l o h1 h2 _, (by first | exact True.intro | exact And.intro rfl flat_nil), ?_⟩; conv => whnf)
      | (refine ⟨_, _, hc _, (by first | exact True.intro | exact And.intro rfl flat_nil), ?_⟩; conv => whnf)
      | (refine ⟨_, _, c20 l h1 h2 _, (by first | exact True.intro | exact And.intro rfl flat_nil), ?_⟩; conv => whnf)
      | (refine ⟨_, _, hx _, (by first | exact True.intro | exact And.intro rfl flat_nil), ?_⟩; conv => whnf)
      | (refine ⟨_, _, c22 a b _, (by first | exact True.intro | exact And.intro rfl flat_nil), ?_⟩; conv => whnf)
      | (refine ⟨_, _, hn _, (by first | exact True.intro | exact And.intro rfl flat_nil), ?_⟩; conv => whnf)
      | (refine ⟨_, _, hw _, (by first | exact True.intro | exact And.intro rfl flat_nil), ?_⟩; conv => whnf)
      | (refine ⟨_, _, c24 l o h1 h2 _, (by first | exact True.intro | exact And.intro rfl flat_nil), ?_⟩; conv => whnf)
      | (intro z_ hz_; conv => whnf)
      | (refine ⟨[], rfl, ?_, True.intro⟩; (conv => whnf); (first | done | ((first | exact rfl | (exfalso; simp at h_; done) | exact congrArg DV.bool (beq_self_eq_true _)); done))))
end Go.Proofs.Ve
