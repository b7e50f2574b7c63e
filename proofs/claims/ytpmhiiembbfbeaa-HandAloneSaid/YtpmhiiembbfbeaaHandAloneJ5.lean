/- HandAlone, part 5 of 5. WHAT IS PROVED: HandAlone: whatever the input, the law returns true, and the input reads as it did. No condition. -/
import Derived.Deep.Slices
import Derived.ChangeMaps5
import Derived.RowKit
import Derived.OpenShut
import Derived.Test.YtpmhiiembbfbeaaRows
import Derived.WalkKit
import Derived.ProofKit
import Derived.ShutString
import Derived.ChangeOld
import Derived.Below
import Derived.SizedLaws
import Derived.Carry
import Derived.Test.YtpmhiiembbfbeaaHandAloneJ1
import Derived.Test.YtpmhiiembbfbeaaHandAloneJ2
import Derived.Test.YtpmhiiembbfbeaaHandAloneJ3
import Derived.Test.YtpmhiiembbfbeaaHandAloneJ4
/- Plain laws of waiting: reach. -/
set_option maxRecDepth 100000
set_option linter.all false
namespace Go.Proofs.Ve
open Go
theorem Way.pos {A : Mat} {n i j : Nat} (h : Way A n i j) : 0 < n := by cases h <;> omega
theorem Way.inv {A : Mat} {n i j : Nat} (h : Way A (n + 1) i j) : ∃ k, i < 4 ∧ k < 4 ∧ A i k = true ∧ (k = j ∨ Way A n k j) := by
  generalize hm : n + 1 = m at h
  cases h with
  | one hi hj h => exact ⟨j, hi, hj, h, .inl rfl⟩
  | step hi hk h w =>
    have : n = _ := Nat.succ.inj hm
    subst this
    exact ⟨_, hi, hk, h, .inr w⟩
theorem reach_fold (l : List (Int × Int)) (n : Nat) (f : Int) (j : Nat) (hj : j < 4) : ∀ (E : List (Int × Int)) (r : Vec),
    E.foldl (fun out e => bif skipE f e then out else orTo (setV out e.2.toNat true) (reachF l n e.2) 4) r j = true ↔ r j = true ∨ ∃ e ∈ E, skipE f e = false ∧ (j = e.2.toNat ∨ reachF l n e.2 j = true) := by
  intro E
  induction E with
  | nil => intro r; simp
  | cons e E ih =>
    intro r
    rw [List.foldl_cons, ih]
    cases hs : skipE f e with
    | true =>
      rw [cond_true]
      constructor
      · rintro (h | ⟨x, hx, h⟩)
        · exact .inl h
        · exact .inr ⟨x, List.mem_cons_of_mem _ hx, h⟩
      · rintro (h | ⟨x, hx, h1, h2⟩)
        · exact .inl h
        · rcases List.mem_cons.1 hx with rfl | hx
          · rw [hs] at h1; cases h1
          · exact .inr ⟨x, hx, h1, h2⟩
    | false =>
      rw [cond_false, orTo_iff]
      have hset : setV r e.2.toNat true j = true ↔ j = e.2.toNat ∨ r j = true := by
        unfold setV
        cases h : Nat.beq j e.2.toNat with
        | true => simp [Nat.eq_of_beq_eq_true h]
        | false =>
          have : j ≠ e.2.toNat := fun hk => by rw [hk] at h; simp at h
          simp [this]
      rw [hset]
      constructor
      · rintro (((h | h) | h) | ⟨x, hx, h⟩)
        · exact .inr ⟨e, List.mem_cons_self .., hs, .inl h⟩
        · exact .inl h
        · exact .inr ⟨e, List.mem_cons_self .., hs, .inr h.2⟩
        · exact .inr ⟨x, List.mem_cons_of_mem _ hx, h⟩
      · rintro (h | ⟨x, hx, h1, h2⟩)
        · exact .inl (.inl (.inr h))
        · rcases List.mem_cons.1 hx with rfl | hx
          · rcases h2 with h2 | h2
            · exact .inl (.inl (.inl h2))
            · exact .inl (.inr ⟨hj, h2⟩)
          · exact .inr ⟨x, hx, h1, h2⟩
theorem reach_iff (l : List (Int × Int)) : ∀ (n f j : Nat), f < 4 → j < 4 → (reachF l n f j = true ↔ ∃ m, m ≤ n ∧ Way (edgesM l) m f j)
  | 0, f, j, _, _ => by
    constructor
    · intro h; cases h
    · rintro ⟨m, hm, h⟩; have := h.pos; omega
  | n + 1, f, j, hf, hj => by
    show (l.foldl (fun (out : Vec) (e : Int × Int) => bif skipE f e then out else orTo (setV out e.2.toNat true) (reachF l n e.2) 4) (fun _ => false)) j = true ↔ _
    rw [reach_fold l n f j hj]
    constructor
    · rintro (h | ⟨⟨a, b⟩, he, hs, h⟩)
      · cases h
      · unfold skipE at hs
        simp at hs
        obtain ⟨h1, h2, h3⟩ := hs
        obtain ⟨k, rfl⟩ : ∃ k : Nat, b = k := ⟨b.toNat, by omega⟩
        subst h1
        have hk : k < 4 := by omega
        have hA := (edgesM_iff l hf hk).2 he
        rcases h with h | h
        · simp at h; subst h
          exact ⟨1, by omega, .one hf hk hA⟩
        · obtain ⟨m, hm, hw⟩ := (reach_iff l n k j hk hj).1 h
          exact ⟨m + 1, by omega, .step hf hk hA hw⟩
    · rintro ⟨m, hm, h⟩
      have := h.pos
      obtain ⟨m, rfl⟩ : ∃ m', m = m' + 1 := ⟨m - 1, by omega⟩
      obtain ⟨k, _, hk, hA, hw⟩ := h.inv
      refine .inr ⟨((f : Int), (k : Int)), (edgesM_iff l hf hk).1 hA, by unfold skipE; simp; omega, ?_⟩
      rcases hw with rfl | hw
      · exact .inl (by simp)
      · exact .inr ((reach_iff l n k j hk hj).2 ⟨m, by omega, hw⟩)
end Go.Proofs.Ve

/- Plain laws of waiting: four steps are enough. -/
set_option maxRecDepth 100000
set_option linter.all false
namespace Go.Proofs.Ve
open Go
theorem lt4' {i : Nat} (h : i < 4) : i = 0 ∨ i = 1 ∨ i = 2 ∨ i = 3 := by omega
theorem Way.last {A : Mat} : ∀ {n i j : Nat}, Way A (n + 2) i j → ∃ k, k < 4 ∧ Way A (n + 1) i k ∧ A k j = true
  | 0, i, j, h => by
    obtain ⟨k, hi, hk, hA, hw⟩ := h.inv
    rcases hw with rfl | hw
    · cases h with
      | step hi' hk' hA' w =>
        obtain ⟨k2, _, _, hA2, hw2⟩ := w.inv
        rcases hw2 with rfl | hw2
        · exact ⟨_, hk', .one hi' hk' hA', hA2⟩
        · have := hw2.pos; omega
    · obtain ⟨k2, _, _, hA2, hw2⟩ := hw.inv
      rcases hw2 with rfl | hw2
      · exact ⟨k, hk, .one hi hk hA, hA2⟩
      · have := hw2.pos; omega
  | n + 1, i, j, h => by
    cases h with
    | step hi hk hA w =>
      obtain ⟨k2, hk2, hw2, hA2⟩ := Way.last w
      exact ⟨k2, hk2, .step hi hk hA hw2, hA2⟩
theorem reach_mono (l : List (Int × Int)) {n i j : Nat} (hi : i < 4) (hj : j < 4) (h : reachF l n i j = true) : reachF l (n + 1) i j = true := by
  obtain ⟨m, hm, w⟩ := (reach_iff l n i j hi hj).1 h
  exact (reach_iff l (n + 1) i j hi hj).2 ⟨m, by omega, w⟩
theorem reach_stable (l : List (Int × Int)) {n i : Nat} (hi : i < 4) (h : ∀ j, j < 4 → reachF l (n + 1) i j = true → reachF l n i j = true) : ∀ j, j < 4 → reachF l (n + 2) i j = true → reachF l (n + 1) i j = true := by
  intro j hj h2
  obtain ⟨m, hm, w⟩ := (reach_iff l (n + 2) i j hi hj).1 h2
  rcases Nat.lt_or_ge m (n + 2) with h3 | h3
  · exact (reach_iff l (n + 1) i j hi hj).2 ⟨m, by omega, w⟩
  · have : m = n + 2 := by omega
    subst this
    obtain ⟨k, hk, w1, hA⟩ := w.last
    obtain ⟨m', hm', w'⟩ := (reach_iff l n i k hi hk).1 (h k hk ((reach_iff l (n + 1) i k hi hk).2 ⟨n + 1, Nat.le_refl _, w1⟩))
    exact (reach_iff l (n + 1) i j hi hj).2 ⟨m' + 1, by omega, w'.app (.one hk hj hA)⟩
def cnt (r : Vec) : Nat := (r 0).toNat + (r 1).toNat + (r 2).toNat + (r 3).toNat
theorem cnt_le (r : Vec) : cnt r ≤ 4 := by
  unfold cnt; cases r 0 <;> cases r 1 <;> cases r 2 <;> cases r 3 <;> decide
theorem cnt_grow {r s : Vec} (h : ∀ j, j < 4 → r j = true → s j = true) (hn : ¬ ∀ j, j < 4 → s j = true → r j = true) : cnt r + 1 ≤ cnt s := by
  have h0 := h 0 (by omega); have h1 := h 1 (by omega); have h2 := h 2 (by omega); have h3 := h 3 (by omega)
  have hn' : ¬ ((s 0 = true → r 0 = true) ∧ (s 1 = true → r 1 = true) ∧ (s 2 = true → r 2 = true) ∧ (s 3 = true → r 3 = true)) := fun ⟨a, b, c, d⟩ => hn fun j hj => by
    rcases lt4' hj with rfl | rfl | rfl | rfl <;> assumption
  unfold cnt
  cases e0 : r 0 <;> cases e1 : r 1 <;> cases e2 : r 2 <;> cases e3 : r 3 <;> cases f0 : s 0 <;> cases f1 : s 1 <;> cases f2 : s 2 <;> cases f3 : s 3 <;> simp_all
theorem reach_four (l : List (Int × Int)) {i : Nat} (hi : i < 4) : ∀ j, j < 4 → reachF l 5 i j = true → reachF l 4 i j = true := by
  apply Classical.byContradiction
  intro hn
  have mono := fun n j hj h => reach_mono l (n := n) (j := j) hi hj h
  have n3 := fun h => hn (reach_stable l hi h)
  have n2 := fun h => n3 (reach_stable l hi h)
  have n1 := fun h => n2 (reach_stable l hi h)
  have n0 := fun h => n1 (reach_stable l hi h)
  have c4 : cnt (reachF l 4 i) + 1 ≤ cnt (reachF l 5 i) := cnt_grow (mono 4) hn
  have c3 : cnt (reachF l 3 i) + 1 ≤ cnt (reachF l 4 i) := cnt_grow (mono 3) n3
  have c2 : cnt (reachF l 2 i) + 1 ≤ cnt (reachF l 3 i) := cnt_grow (mono 2) n2
  have c1 : cnt (reachF l 1 i) + 1 ≤ cnt (reachF l 2 i) := cnt_grow (mono 1) n1
  have c0 : cnt (reachF l 0 i) + 1 ≤ cnt (reachF l 1 i) := cnt_grow (mono 0) n0
  have := cnt_le (reachF l 5 i)
  omega
end Go.Proofs.Ve

/- Plain laws of waiting: who is stuck, by either way. -/
set_option maxRecDepth 100000
set_option linter.all false
namespace Go.Proofs.Ve
open Go
theorem way_four (l : List (Int × Int)) {i : Nat} (hi : i < 4) : ∀ (n j : Nat), Way (edgesM l) n i j → reachF l 4 i j = true := by
  intro n
  induction n using Nat.strongRecOn with
  | _ n ih =>
    intro j h
    have hj := h.lt.2
    rcases Nat.lt_or_ge n 5 with hn | hn
    · exact (reach_iff l 4 i j hi hj).2 ⟨n, by omega, h⟩
    · obtain ⟨m, rfl⟩ : ∃ m, n = m + 2 := ⟨n - 2, by omega⟩
      obtain ⟨k, hk, w, hA⟩ := h.last
      obtain ⟨p, hp, w'⟩ := (reach_iff l 4 i k hi hk).1 (ih (m + 1) (by omega) k w)
      exact reach_four l hi j hj ((reach_iff l 5 i j hi hj).2 ⟨p + 1, by omega, w'.app (.one hk hj hA)⟩)
theorem ways_reach (l : List (Int × Int)) {i j : Nat} (hi : i < 4) (hj : j < 4) : waysM l i j = reachM l i j := by
  rw [Bool.eq_iff_iff]
  constructor
  · intro h
    obtain ⟨n, w⟩ := all_way (edgesM l) 4 (by omega) i j hi hj h
    exact way_four l hi n j w
  · intro h
    obtain ⟨m, _, w⟩ := (reach_iff l 4 i j hi hj).1 h
    exact way_all w
theorem stuck_eq (l : List (Int × Int)) : stuckM (waysM l) = stuckM (reachM l) := by
  unfold stuckM diagL
  rw [ways_reach l (i := 0) (j := 0) (by omega) (by omega), ways_reach l (i := 1) (j := 1) (by omega) (by omega), ways_reach l (i := 2) (j := 2) (by omega) (by omega), ways_reach l (i := 3) (j := 3) (by omega) (by omega)]
end Go.Proofs.Ve

/- Plain laws of waiting: the victim, by either way. -/
set_option maxRecDepth 100000
set_option linter.all false
namespace Go.Proofs.Ve
open Go
theorem victim_F (s : Nat → Int) : ∀ (xs : List Int) (b : Int), (b :: xs).Pairwise (· < ·) → maxF s b xs = bestF s b xs
  | [], b, _ => rfl
  | x :: xs, b, h => by
    rw [maxF, bestF]
    rw [List.pairwise_cons] at h
    have hbx := h.1 x (List.mem_cons_self ..)
    have hy : decide (yngr s x b > 0) = decide (s x.toNat ≥ s b.toNat) := by
      unfold yngr
      by_cases h1 : s x.toNat < s b.toNat
      · simp [h1]
      · by_cases h2 : s x.toNat > s b.toNat
        · simp [h1, h2]; omega
        · simp [h1, h2]; omega
    rw [hy]
    cases hc : decide (s x.toNat ≥ s b.toNat) with
    | true => exact victim_F s xs x h.2
    | false =>
      refine victim_F s xs b ?_
      rw [List.pairwise_cons]
      exact ⟨fun y hy => h.1 y (List.mem_cons_of_mem _ hy), (List.pairwise_cons.1 h.2).2⟩
theorem victim_eq (s : Nat → Int) (w : Mat) : victimM s (stuckM w) = rVictim s (stuckM w) := by
  have ha : Asc (stuckM w) := bitsL_asc _ _
  generalize stuckM w = S at ha
  cases S with
  | nil => rfl
  | cons b S => show (maxF s b S, true) = (bestF s b S, true); rw [victim_F s S b ha]
end Go.Proofs.Ve

/- WaitTells: its body tells true. -/
set_option maxRecDepth 100000
set_option linter.all false
namespace Go.Proofs.Ve
open Go
theorem c6 (l : Locks) (e : List (Int × Int)) (s : Nat → Int) (H : List (List Blk)) : CallEq X H 6 [pLocks l, .d (encE e), pSt s] (.d (.bool true)) [] := by
  cases hf : few l with
  | false =>
    have hw := fun H => hf ▸ c14 l H
    refine callEq_of_body X_ok rfl Try.func6 rfl ?_
    conv => whnf
    repeat' (first
      | (refine And.intro (fun h_ => ?_) (fun h_ => ?_) <;> (conv => whnf))
      | (refine ⟨_, _, c28 _, (by first | exact True.intro | exact And.intro rfl flat_nil), ?_⟩; conv => whnf)
      | (refine ⟨_, _, hw _, (by first | exact True.intro | exact And.intro rfl flat_nil), ?_⟩; conv => whnf)
      | (refine ⟨_, _, c29 e _, (by first | exact True.intro | exact And.intro rfl flat_nil), ?_⟩; conv => whnf)
      | (intro z_ hz_; conv => whnf)
      | (refine ⟨[], rfl, ?_, True.intro⟩; (conv => whnf); (first | done | ((first | exact rfl | (exfalso; simp at h_; done)); done)))
      | fail)
    all_goals simp_all
  | true =>
    cases hE : decide (((e.map cEdge).length : Int) ≤ 12) with
    | false =>
      have hw := fun H => hE ▸ c29 e H
      have hw0 := fun H => hf ▸ c14 l H
      refine callEq_of_body X_ok rfl Try.func6 rfl ?_
      conv => whnf
      repeat' (first
        | (refine And.intro (fun h_ => ?_) (fun h_ => ?_) <;> (conv => whnf))
        | (refine ⟨_, _, c28 _, (by first | exact True.intro | exact And.intro rfl flat_nil), ?_⟩; conv => whnf)
        | (refine ⟨_, _, hw0 _, (by first | exact True.intro | exact And.intro rfl flat_nil), ?_⟩; conv => whnf)
        | (refine ⟨_, _, hw _, (by first | exact True.intro | exact And.intro rfl flat_nil), ?_⟩; conv => whnf)
        | (intro z_ hz_; conv => whnf)
        | (refine ⟨[], rfl, ?_, True.intro⟩; (conv => whnf); (first | done | ((first | exact rfl | (exfalso; simp at h_; done)); done)))
        | fail)
      all_goals simp_all
    | true =>
      have ⟨hl1, hl2⟩ := few_le hf
      have he : e.length < 100000 := by simp at hE; omega
      have hS : (stuckM (waysM e)).length ≤ 4 := bitsL_len _ _
      have v1 := fun H => c30 e s he H
      have v2 : ∀ H, CallEq X H 31 [.d (encE e), pSt s] (.tuple [.d (.int .i64 (victimM s (stuckM (waysM e))).1), .d (.bool (victimM s (stuckM (waysM e))).2)]) [] := fun H => by
        have := c31 e s he H
        rw [← stuck_eq, ← victim_eq] at this; exact this
      have s1 := fun H => c35 e he H
      have s2 : ∀ H, CallEq X H 36 [.d (encE e)] (.d (encI (stuckM (waysM e)))) [] := fun H => stuck_eq e ▸ c36 e he H
      have n1 : ∀ H, CallEq X H 16 [.d (encI (stuckM (waysM e))), .d (encI (stuckM (waysM e)))] (.d (.bool true)) [] := fun H => numbers_self (stuckM (waysM e)) ▸ c16 (stuckM (waysM e)) (stuckM (waysM e)) (by omega) H
      have e1 := fun H => c33 l (by omega) (by omega) H
      have e2 := fun H => c34 l (by omega) (by omega) H
      have m1 : ∀ H, CallEq X H 32 [.d (encE (edgesL l)), .d (encE (edgesL l))] (.d (.bool true)) [] := fun H => sameE_self (edgesL l) ▸ c32 (edgesL l) (edgesL l) (by have := edgesL_len l; omega) H
      refine callEq_of_body X_ok rfl Try.func6 rfl ?_
      conv => whnf
      repeat' (first
        | (refine And.intro (fun h_ => ?_) (fun h_ => ?_) <;> (conv => whnf))
        | (refine ⟨_, _, c28 _, (by first | exact True.intro | exact And.intro rfl flat_nil), ?_⟩; conv => whnf)
        | (refine ⟨_, _, c14 l _, (by first | exact True.intro | exact And.intro rfl flat_nil), ?_⟩; conv => whnf)
        | (refine ⟨_, _, c29 e _, (by first | exact True.intro | exact And.intro rfl flat_nil), ?_⟩; conv => whnf)
        | (refine ⟨_, _, v1 _, (by first | exact True.intro | exact And.intro rfl flat_nil), ?_⟩; conv => whnf)
        | (refine ⟨_, _, v2 _, (by first | exact True.intro | exact And.intro rfl flat_nil), ?_⟩; conv => whnf)
        | (refine ⟨_, _, s1 _, (by first | exact True.intro | exact And.intro rfl flat_nil), ?_⟩; conv => whnf)
        | (refine ⟨_, _, s2 _, (by first | exact True.intro | exact And.intro rfl flat_nil), ?_⟩; conv => whnf)
        | (refine ⟨_, _, n1 _, (by first | exact True.intro | exact And.intro rfl flat_nil), ?_⟩; conv => whnf)
        | (refine ⟨_, _, e1 _, (by first | exact True.intro | exact And.intro rfl flat_nil), ?_⟩; conv => whnf)
        | (refine ⟨_, _, e2 _, (by first | exact True.intro | exact And.intro rfl flat_nil), ?_⟩; conv => whnf)
        | (refine ⟨_, _, m1 _, (by first | exact True.intro | exact And.intro rfl flat_nil), ?_⟩; conv => whnf)
        | (intro z_ hz_; conv => whnf)
        | (refine ⟨[], rfl, ?_, True.intro⟩; (conv => whnf); (first | done | ((first | exact rfl | (exfalso; simp at h_; done) | (exfalso; rename_i g_; exact absurd g_ (by decide)) | exact congrArg DV.bool (beq_self_eq_true _)); done)))
        | fail)
end Go.Proofs.Ve

/- Plain laws of waiting: more edges, fewer edges. -/
set_option maxRecDepth 100000
set_option linter.all false
namespace Go.Proofs.Ve
open Go
theorem Way.mono {A B : Mat} (h : ∀ i j, i < 4 → j < 4 → A i j = true → B i j = true) {n i j : Nat} (w : Way A n i j) : Way B n i j := by
  induction w with
  | one hi hj ha => exact .one hi hj (h _ _ hi hj ha)
  | step hi hk ha w ih => exact .step hi hk (h _ _ hi hk ha) ih
theorem ways_iff (l : List (Int × Int)) {i j : Nat} (hi : i < 4) (hj : j < 4) : waysM l i j = true ↔ ∃ n, Way (edgesM l) n i j :=
  ⟨fun h => all_way (edgesM l) 4 (by omega) i j hi hj h, fun ⟨n, w⟩ => way_all w⟩
theorem ways_mono {l m : List (Int × Int)} (h : ∀ i j : Nat, i < 4 → j < 4 → ((i : Int), (j : Int)) ∈ l → ((i : Int), (j : Int)) ∈ m) {i j : Nat} (hi : i < 4) (hj : j < 4) (hw : waysM l i j = true) : waysM m i j = true := by
  obtain ⟨n, w⟩ := (ways_iff l hi hj).1 hw
  exact (ways_iff m hi hj).2 ⟨n, w.mono fun a b ha hb hl => (edgesM_iff m ha hb).2 (h a b ha hb ((edgesM_iff l ha hb).1 hl))⟩
theorem stuck_mem (w : Mat) (x : Int) : x ∈ stuckM w ↔ ∃ i : Nat, i < 4 ∧ x = i ∧ w i i = true := by
  unfold stuckM
  rw [bitsL_mem]
  constructor
  · rintro ⟨k, rfl, hk⟩
    have hk4 : k < 4 := by have := (List.getElem?_eq_some_iff.1 hk).1; simpa [diagL] using this
    refine ⟨k, hk4, by omega, ?_⟩
    match k, hk4 with
    | 0, _ => simpa [diagL] using hk
    | 1, _ => simpa [diagL] using hk
    | 2, _ => simpa [diagL] using hk
    | 3, _ => simpa [diagL] using hk
  · rintro ⟨i, hi, rfl, h⟩
    refine ⟨i, by omega, ?_⟩
    match i, hi with
    | 0, _ => simp [diagL, h]
    | 1, _ => simp [diagL, h]
    | 2, _ => simp [diagL, h]
    | 3, _ => simp [diagL, h]
theorem stuck_mono {l m : List (Int × Int)} (h : ∀ i j : Nat, i < 4 → j < 4 → ((i : Int), (j : Int)) ∈ l → ((i : Int), (j : Int)) ∈ m) : ∀ x ∈ stuckM (waysM l), x ∈ stuckM (waysM m) := fun x hx => by
  obtain ⟨i, hi, rfl, hw⟩ := (stuck_mem _ _).1 hx
  exact (stuck_mem _ _).2 ⟨i, hi, rfl, ways_mono h hi hi hw⟩
theorem stuck_comm (l m : List (Int × Int)) : stuckM (waysM (l ++ m)) = stuckM (waysM (m ++ l)) := by
  have h : ∀ i, i < 4 → waysM (l ++ m) i i = waysM (m ++ l) i i := fun i hi => by
    rw [Bool.eq_iff_iff]
    exact ⟨ways_mono (fun a b _ _ h => by rw [List.mem_append] at h ⊢; exact h.symm) hi hi, ways_mono (fun a b _ _ h => by rw [List.mem_append] at h ⊢; exact h.symm) hi hi⟩
  unfold stuckM diagL
  rw [h 0 (by omega), h 1 (by omega), h 2 (by omega), h 3 (by omega)]
/-- without the edges of one nobody is stuck there -/
theorem stuck_none {l : List (Int × Int)} {w : Int} (h : ∀ e ∈ l, e.1 ≠ w) : w ∉ stuckM (waysM l) := fun hx => by
  obtain ⟨i, hi, rfl, hw⟩ := (stuck_mem _ _).1 hx
  obtain ⟨n, W⟩ := (ways_iff l hi hi).1 hw
  have : ∃ k, k < 4 ∧ edgesM l i k = true := by
    cases W with
    | one _ hj ha => exact ⟨_, hj, ha⟩
    | step _ hk ha _ => exact ⟨_, hk, ha⟩
  obtain ⟨k, hk, ha⟩ := this
  exact h _ ((edgesM_iff l hi hk).1 ha) rfl
end Go.Proofs.Ve

/- WaitMore: its body tells true. -/
set_option maxRecDepth 100000
set_option maxHeartbeats 4000000
set_option linter.all false
namespace Go.Proofs.Ve
open Go
theorem takeE (a b : List (Int × Int)) : DV.sl (List.take (0 + (a.map cEdge).length + (b.map cEdge).length) ([] ++ a.map cEdge ++ b.map cEdge)) = encE (a ++ b) := by
  rw [List.take_of_length_le (by simp)]; simp [encE]
theorem takeI (l : List Int) : DV.sl (List.take l.length (rowI l)) = encI l := by
  rw [List.take_of_length_le (by simp [rowI])]; rfl
def outE (w : Int) (l : List (Int × Int)) : List (Int × Int) := l.filter fun x => x.1 != w
theorem outE_step (w : Int) {l : List (Int × Int)} {k : Nat} {x : Int × Int} (h : l[k]? = some x) : outE w (l.take (k + 1)) = outE w (l.take k) ++ bif x.1 != w then [x] else [] := by
  unfold outE
  rw [take_snoc' h, List.filter_append]
  cases hx : x.1 != w <;> simp [hx]
theorem outE_len (w : Int) (l : List (Int × Int)) : (outE w l).length ≤ l.length := List.length_filter_le _ _
theorem outE_ne (w : Int) (l : List (Int × Int)) : ∀ x ∈ outE w l, x.1 ≠ w := fun x hx => by
  have := (List.mem_filter.1 hx).2; simpa using this
def hasS (h : Nat → Bool) (x : Nat) : Nat → Bool := fun i => bif Nat.beq i x then true else h i
def hasB (h : Nat → Bool) : Blk := .box [.d (.bool (h 0)), .d (.bool (h 1)), .d (.bool (h 2)), .d (.bool (h 3))]
theorem c7 (e m : List (Int × Int)) (u : Int) (H : List (List Blk)) : CallEq X H 7 [.d (encE e), .d (encE m), .d (.int .u8 u)] (.d (.bool true)) [] := by
  cases hE : decide (((e.map cEdge).length : Int) ≤ 12) with
  | false =>
    have hw := fun H => hE ▸ c29 e H
    refine callEq_of_body X_ok rfl Try.func7 rfl ?_
    conv => whnf
    repeat' (first
      | (refine And.intro (fun h_ => ?_) (fun h_ => ?_) <;> (conv => whnf))
      | (refine ⟨_, _, c28 _, (by first | exact True.intro | exact And.intro rfl flat_nil), ?_⟩; conv => whnf)
      | (refine ⟨_, _, hw _, (by first | exact True.intro | exact And.intro rfl flat_nil), ?_⟩; conv => whnf)
      | (intro z_ hz_; conv => whnf)
      | (refine ⟨[], rfl, ?_, True.intro⟩; (conv => whnf); (first | done | ((first | exact rfl | (exfalso; simp at h_; done)); done)))
      | fail)
    all_goals simp_all
  | true =>
    cases hM : decide (((m.map cEdge).length : Int) ≤ 12) with
    | false =>
      have hw := fun H => hE ▸ c29 e H
      have hw2 := fun H => hM ▸ c29 m H
      refine callEq_of_body X_ok rfl Try.func7 rfl ?_
      conv => whnf
      repeat' (first
        | (refine And.intro (fun h_ => ?_) (fun h_ => ?_) <;> (conv => whnf))
        | (refine ⟨_, _, c28 _, (by first | exact True.intro | exact And.intro rfl flat_nil), ?_⟩; conv => whnf)
        | (refine ⟨_, _, hw _, (by first | exact True.intro | exact And.intro rfl flat_nil), ?_⟩; conv => whnf)
        | (refine ⟨_, _, hw2 _, (by first | exact True.intro | exact And.intro rfl flat_nil), ?_⟩; conv => whnf)
        | (intro z_ hz_; conv => whnf)
        | (refine ⟨[], rfl, ?_, True.intro⟩; (conv => whnf); (first | done | ((first | exact rfl | (exfalso; simp at h_; done)); done)))
        | fail)
      all_goals simp_all
    | true =>
      have he : e.length ≤ 12 := by simp at hE; omega
      have hm : m.length ≤ 12 := by simp at hM; omega
      have f1 : ∀ H, CallEq X H 29 [.d (encE e)] (.d (.bool true)) [] := fun H => hE ▸ c29 e H
      have f2 : ∀ H, CallEq X H 29 [.d (encE m)] (.d (.bool true)) [] := fun H => hM ▸ c29 m H
      have s1 := fun H => c35 e (by omega) H
      have s2 := fun H => c35r (e ++ m) (by simp; omega) H
      have s3 : ∀ H, CallEq X H 35 [.d (encE (m ++ e))] (.row 0 0 (stuckM (waysM (e ++ m))).length) [⟨3, 1, rowI (stuckM (waysM (e ++ m)))⟩] := fun H => stuck_comm e m ▸ c35r (m ++ e) (by simp; omega) H
      have hsub := stuck_mono (l := e) (m := e ++ m) fun i j _ _ h => List.mem_append_left _ h
      have hb2 := stuck_in4 (waysM (e ++ m))
      have hb1 := stuck_in4 (waysM e)
      have hl2 : (stuckM (waysM (e ++ m))).length ≤ 4 := bitsL_len _ _
      have hl1 : (stuckM (waysM e)).length ≤ 4 := bitsL_len _ _
      have n1 : ∀ H, CallEq X H 16 [.d (encI (stuckM (waysM (e ++ m)))), .d (encI (stuckM (waysM (e ++ m))))] (.d (.bool true)) [] := fun H => numbers_self (stuckM (waysM (e ++ m))) ▸ c16 _ _ (by omega) H
      have s4 := fun (l : List (Int × Int)) (h : l.length < 100000) H => c35r l h H
      have hno := fun (l : List (Int × Int)) (w : Int) (h : ∀ x ∈ l, x.1 ≠ w) => stuck_none h
      generalize stuckM (waysM (e ++ m)) = S2 at s2 s3 hsub hb2 hl2 n1
      generalize stuckM (waysM e) = S1 at s1 hsub hb1 hl1
      refine callEq_of_body X_ok rfl Try.func7 rfl ?_
      conv => whnf
      refine ⟨_, _, c28 _, True.intro, ?_⟩
      conv => whnf
      refine ⟨_, _, f1 _, True.intro, ?_⟩
      conv => whnf
      refine And.intro (fun _ => ?_) (fun h => absurd h (by decide))
      conv => whnf
      refine ⟨_, _, f2 _, True.intro, ?_⟩
      conv => whnf
      refine And.intro (fun h => absurd h (by decide)) (fun _ => ?_)
      conv => whnf
      refine ⟨_, _, s1 _, True.intro, ?_⟩
      conv => whnf
      refine ⟨fun y hy => by simp at hy; obtain ⟨a, b, _, rfl⟩ := hy; rfl, ?_⟩
      conv => whnf
      refine ⟨rfl, by (first | (simp; omega) | (first | omega | (dsimp only; omega) | (simp; done) | (simp; omega))), ?_⟩
      conv => whnf
      refine ⟨fun y hy => by simp at hy; obtain ⟨a, b, _, rfl⟩ := hy; rfl, ?_⟩
      conv => whnf
      refine ⟨by simp, by (first | (simp; omega) | (first | omega | (dsimp only; omega) | (simp; done) | (simp; omega))), ?_⟩
      conv => whnf
      rw [takeE]
      refine ⟨_, _, s2 _, And.intro rfl (flat_rowI _ _ _), ?_⟩
      conv => whnf
      refine ⟨fun y hy => by simp at hy; obtain ⟨a, b, _, rfl⟩ := hy; rfl, ?_⟩
      conv => whnf
      refine ⟨rfl, by (first | (simp; omega) | (first | omega | (dsimp only; omega) | (simp; done) | (simp; omega))), ?_⟩
      conv => whnf
      refine ⟨fun y hy => by simp at hy; obtain ⟨a, b, _, rfl⟩ := hy; rfl, ?_⟩
      conv => whnf
      refine ⟨by simp, by (first | (simp; omega) | (first | omega | (dsimp only; omega) | (simp; done) | (simp; omega))), ?_⟩
      conv => whnf
      rw [takeE]
      refine ⟨_, _, s3 _, And.intro rfl (flat_rowI _ _ _), ?_⟩
      conv => whnf
      refine loopV_of (fun s' : Nat × (Nat → Bool) => ⟨[.d (encE e), .d (encE m), .d (.int .u8 u), .any, .any, .any, .any, .d (.bool true), .d (encI S1), .row 0 0 S2.length, .row 0 1 S2.length, .ptr 0 2 0, .d (.int .i64 s'.1), .any, .any, .any, .any, .any, .any, .any, .any, .any, .any, .any, .any, .any, .any, .any, .any, .any, .any, .any, .any, .any, .any, .any, .any, .any, .any, .any, .any, .any, .any, .any, .any, .any, .any, .any, .any, .any, .any, .any, .any, .any, .any, .any, .any, .any, .any, .any, .any, .any, .any, .any, .any, .any, .any, .any, .any, .any, .any, .any, .any, .any, .any, .any, .any, .any, .any, .any, .any, .any, .any, .any, .any, .any, .any, .any, .any, .any, .any, .any, .any, .any, .any, .any, .any, .any, .any, .any, .any, .any, .any, .any, .any, .any, .any, .any, .any, .any, .any, .any, .any, .any, .any, .any, .any, .any, .any, .any, .any, .any, .any, .any, .any, .any, .any, .any, .any, .any, .any, .any, .any, .any, .any, .any, .any], [.row 3 1 (rowI S2), .row 3 1 (rowI S2), hasB s'.2]⟩)
        (fun s' => s'.1 ≤ S2.length ∧ ∀ x ∈ S2.take s'.1, s'.2 x.toNat = true) (fun s' => S2.length - s'.1) (0, fun _ => false) [3, 7, 8] ⟨Nat.zero_le _, fun x hx => by simp at hx⟩ ?_ ?_
      · refine And.intro rfl (And.intro ?_ ?_)
        all_goals (repeat' (first | exact True.intro | exact rfl | refine And.intro ?_ ?_))
      · rintro ⟨k, h⟩ ⟨hk, hh⟩
        dsimp only at hk hh
        conv => whnf
        refine And.intro (fun h_ => ?_) (fun h_ => ?_)
        · conv => whnf
          have hk' : k < S2.length := by simp at h_; omega
          obtain ⟨x, hx⟩ : ∃ x, S2[k]? = some x := ⟨_, List.getElem?_eq_getElem hk'⟩
          have fx : (rowI S2)[k]? = some [.int .i64 x] := by simp [rowI, hx]
          have hxi : in4 x := hb2 x (List.mem_of_getElem? hx)
          have htk := take_snoc' hx
          have next : ∀ y ∈ S2.take (k + 1), hasS h x.toNat y.toNat = true := fun y hy => by
            rw [htk, List.mem_append] at hy
            unfold hasS
            rcases hy with hy | hy
            · rw [hh y hy]; cases Nat.beq y.toNat x.toNat <;> rfl
            · simp at hy; subst hy; simp
          clear htk hx
          refine ⟨by omega, by omega, [.int .i64 x], fx, ?_⟩
          conv => whnf
          rcases hxi with rfl | rfl | rfl | rfl
          all_goals
            refine And.intro (fun q1 => ?_) (fun q1 => absurd q1 (by decide))
            conv => whnf
            refine ⟨by omega, by omega, _, fx, ?_⟩
            conv => whnf
            refine And.intro (fun q2 => absurd q2 (by decide)) (fun q2 => ?_)
            conv => whnf
            refine ⟨by omega, by omega, _, fx, ?_⟩
            conv => whnf
            refine ⟨by decide, by decide, _, rfl, ?_⟩
            conv => whnf
            intro z hz
            conv => whnf
            rw [wrap_small (by (first | omega | (dsimp only; omega) | (simp; done) | (simp; omega))) (by (first | omega | (dsimp only; omega) | (simp; done) | (simp; omega)))] at hz
            subst hz
            refine ⟨(k + 1, hasS h _), [0, 1, 2], ⟨by show k + 1 ≤ S2.length; omega, next⟩, by show S2.length - (k + 1) < S2.length - k; omega, And.intro rfl (And.intro ?_ ?_)⟩
            all_goals (repeat' (first | exact True.intro | exact rfl | refine And.intro ?_ ?_))
        · conv => whnf
          have hk' : k = S2.length := by simp at h_; omega
          subst hk'
          rw [List.take_length] at hh
          refine loopV_of (fun k : Nat => ⟨[.d (encE e), .d (encE m), .d (.int .u8 u), .any, .any, .any, .any, .d (.bool true), .d (encI S1), .row 0 0 S2.length, .row 0 1 S2.length, .ptr 0 2 0, .any, .d (.int .i64 k), .any, .any, .any, .any, .any, .any, .any, .any, .any, .any, .any, .any, .any, .any, .any, .any, .any, .any, .any, .any, .any, .any, .any, .any, .any, .any, .any, .any, .any, .any, .any, .any, .any, .any, .any, .any, .any, .any, .any, .any, .any, .any, .any, .any, .any, .any, .any, .any, .any, .any, .any, .any, .any, .any, .any, .any, .any, .any, .any, .any, .any, .any, .any, .any, .any, .any, .any, .any, .any, .any, .any, .any, .any, .any, .any, .any, .any, .any, .any, .any, .any, .any, .any, .any, .any, .any, .any, .any, .any, .any, .any, .any, .any, .any, .any, .any, .any, .any, .any, .any, .any, .any, .any, .any, .any, .any, .any, .any, .any, .any, .any, .any, .any, .any, .any, .any, .any, .any, .any, .any, .any, .any, .any], [.row 3 1 (rowI S2), .row 3 1 (rowI S2), hasB h]⟩)
            (fun k => k ≤ S1.length) (fun k => S1.length - k) 0 [0, 1, 2] (Nat.zero_le _) ?_ ?_
          · refine And.intro rfl (And.intro ?_ ?_)
            all_goals (repeat' (first | exact True.intro | exact rfl | refine And.intro ?_ ?_))
          · intro k hk
            conv => whnf
            refine And.intro (fun h_ => ?_) (fun h_ => ?_)
            · conv => whnf
              have hk' : k < S1.length := by simp at h_; omega
              obtain ⟨x, hx⟩ : ∃ x, S1[k]? = some x := ⟨_, List.getElem?_eq_getElem hk'⟩
              have fx : (S1.map fun x => [DV.int .i64 x])[k]? = some [.int .i64 x] := by simp [hx]
              have hxi : in4 x := hb1 x (List.mem_of_getElem? hx)
              have hxh := hh x (hsub x (List.mem_of_getElem? hx))
              clear hx
              refine ⟨by omega, [.int .i64 x], fx, rfl, ?_⟩
              conv => whnf
              rcases hxi with rfl | rfl | rfl | rfl
              all_goals
                refine And.intro (fun q1 => ?_) (fun q1 => absurd q1 (by decide))
                conv => whnf
                refine ⟨by omega, _, fx, rfl, ?_⟩
                conv => whnf
                refine And.intro (fun q2 => ?_) (fun q2 => absurd q2 (by decide))
                conv => whnf
                refine ⟨by omega, _, fx, rfl, ?_⟩
                conv => whnf
                refine ⟨by decide, by decide, _, rfl, ?_⟩
                conv => whnf
                refine And.intro (fun q3 => absurd q3 (by (first | (rw [show h 0 = true from hxh]; decide) | (rw [show h 1 = true from hxh]; decide) | (rw [show h 2 = true from hxh]; decide) | (rw [show h 3 = true from hxh]; decide)))) (fun q3 => ?_)
                conv => whnf
                intro z hz
                conv => whnf
                rw [wrap_small (by (first | omega | (dsimp only; omega) | (simp; done) | (simp; omega))) (by (first | omega | (dsimp only; omega) | (simp; done) | (simp; omega)))] at hz
                subst hz
                refine ⟨k + 1, [0, 1, 2], by omega, by omega, And.intro rfl (And.intro ?_ ?_)⟩
                all_goals (repeat' (first | exact True.intro | exact rfl | refine And.intro ?_ ?_))
            · conv => whnf
              refine ⟨by decide, ?_⟩
              conv => whnf
              intro z hz
              conv => whnf
              intro w hw
              conv => whnf
              clear hz
              clear hw
              refine loopV_of (fun k : Nat => ⟨[.d (encE e), .d (encE m), .any, .any, .any, .any, .any, .d (.bool true), .any, .row 0 0 S2.length, .row 0 1 S2.length, .any, .any, .any, .row 0 2 (outE w (e.take k)).length, .d (.int .i64 w), .d (.int .i64 k), .any, .any, .any, .any, .any, .any, .any, .any, .any, .any, .any, .any, .any, .any, .any, .any, .any, .any, .any, .any, .any, .any, .any, .any, .any, .any, .any, .any, .any, .any, .any, .any, .any, .any, .any, .any, .any, .any, .any, .any, .any, .any, .any, .any, .any, .any, .any, .any, .any, .any, .any, .any, .any, .any, .any, .any, .any, .any, .any, .any, .any, .any, .any, .any, .any, .any, .any, .any, .any, .any, .any, .any, .any, .any, .any, .any, .any, .any, .any, .any, .any, .any, .any, .any, .any, .any, .any, .any, .any, .any, .any, .any, .any, .any, .any, .any, .any, .any, .any, .any, .any, .any, .any, .any, .any, .any, .any, .any, .any, .any, .any, .any, .any, .any, .any, .any, .any, .any, .any, .any], [.row 3 1 (rowI S2), .row 3 1 (rowI S2), .row 60 2 (rowE (outE w (e.take k)))]⟩)
                (fun k => k ≤ e.length) (fun k => e.length - k) 0 [0, 1, 100] (Nat.zero_le _) ?_ ?_
              · refine And.intro rfl (And.intro ?_ ?_)
                all_goals (repeat' (first | exact True.intro | exact rfl | refine And.intro ?_ ?_))
              · intro k hk
                conv => whnf
                refine And.intro (fun h_ => ?_) (fun h_ => ?_)
                · conv => whnf
                  have hk' : k < e.length := by simp at h_; omega
                  obtain ⟨x, hx⟩ : ∃ x, e[k]? = some x := ⟨_, List.getElem?_eq_getElem hk'⟩
                  have fx : (e.map cEdge)[k]? = some (cEdge x) := by simp [hx]
                  have st := outE_step w hx
                  have hle := outE_len w (e.take k)
                  rw [List.length_take] at hle
                  clear hx
                  refine ⟨by omega, cEdge x, fx, rfl, ?_⟩
                  conv => whnf
                  refine ⟨by decide, by decide, 0, rfl, ?_⟩
                  conv => whnf
                  refine And.intro (fun q1 => ?_) (fun q1 => ?_)
                  · conv => whnf
                    rw [q1, cond_true] at st
                    refine ⟨by omega, cEdge x, fx, rfl, ?_⟩
                    conv => whnf
                    refine ⟨fun y hy => by simp at hy; subst hy; rfl, ?_⟩
                    conv => whnf
                    refine ⟨(rowE_len _).symm, by (first | (simp; omega) | (first | omega | (dsimp only; omega) | (simp; done) | (simp; omega))), ?_⟩
                    conv => whnf
                    intro z hz
                    conv => whnf
                    rw [wrap_small (by omega) (by omega)] at hz
                    subst hz
                    refine ⟨k + 1, [0, 1, 3], by omega, by omega, And.intro rfl (And.intro ?_ ?_)⟩
                    all_goals (repeat' (first | exact True.intro | exact rfl | refine And.intro ?_ ?_))
                    · show PV.row 0 3 _ = PV.row 0 3 _
                      rw [st]; simp
                    · rw [st]; simp [rowE, cEdge]
                  · conv => whnf
                    rw [show (x.1 != w) = false from q1, cond_false, List.append_nil] at st
                    intro z hz
                    conv => whnf
                    rw [wrap_small (by omega) (by omega)] at hz
                    subst hz
                    refine ⟨k + 1, [0, 1, 2], by omega, by omega, And.intro rfl (And.intro ?_ ?_)⟩
                    all_goals (repeat' (first | exact True.intro | exact rfl | refine And.intro ?_ ?_))
                    · show PV.row 0 2 _ = PV.row 0 2 _
                      rw [st]
                    · rw [st]
                · conv => whnf
                  have hk' : k = e.length := by simp at h_; omega
                  subst hk'
                  rw [List.take_length]
                  have hle := outE_len w e
                  have s5 := s4 (outE w e) (by omega)
                  have hn := hno (outE w e) w (outE_ne w e)
                  have hb4 := stuck_in4 (waysM (outE w e))
                  have hl4 : (stuckM (waysM (outE w e))).length ≤ 4 := bitsL_len _ _
                  generalize stuckM (waysM (outE w e)) = S4 at s5 hn hb4 hl4
                  rw [show DV.sl (List.take (outE w e).length (rowE (outE w e))) = encE (outE w e) from by rw [List.take_of_length_le (by rw [rowE_len]; exact Nat.le_refl _)]; rfl]
                  refine ⟨_, _, s5 _, And.intro rfl (flat_rowI _ _ _), ?_⟩
                  conv => whnf
                  refine loopV_of (fun k : Nat => ⟨[.any, .any, .any, .any, .any, .any, .any, .d (.bool true), .any, .row 0 0 S2.length, .row 0 1 S2.length, .any, .any, .any, .any, .d (.int .i64 w), .any, .row 0 2 S4.length, .d (.int .i64 k), .any, .any, .any, .any, .any, .any, .any, .any, .any, .any, .any, .any, .any, .any, .any, .any, .any, .any, .any, .any, .any, .any, .any, .any, .any, .any, .any, .any, .any, .any, .any, .any, .any, .any, .any, .any, .any, .any, .any, .any, .any, .any, .any, .any, .any, .any, .any, .any, .any, .any, .any, .any, .any, .any, .any, .any, .any, .any, .any, .any, .any, .any, .any, .any, .any, .any, .any, .any, .any, .any, .any, .any, .any, .any, .any, .any, .any, .any, .any, .any, .any, .any, .any, .any, .any, .any, .any, .any, .any, .any, .any, .any, .any, .any, .any, .any, .any, .any, .any, .any, .any, .any, .any, .any, .any, .any, .any, .any, .any, .any, .any, .any, .any, .any, .any, .any, .any, .any], [.row 3 1 (rowI S2), .row 3 1 (rowI S2), .row 3 1 (rowI S4)]⟩)
                    (fun k => k ≤ S4.length) (fun k => S4.length - k) 0 [0, 1, 3] (Nat.zero_le _) ?_ ?_
                  · refine And.intro rfl (And.intro ?_ ?_)
                    all_goals (repeat' (first | exact True.intro | exact rfl | refine And.intro ?_ ?_))
                  · intro k hk
                    conv => whnf
                    refine And.intro (fun h_ => ?_) (fun h_ => ?_)
                    · conv => whnf
                      have hk' : k < S4.length := by simp at h_; omega
                      obtain ⟨x, hx⟩ : ∃ x, S4[k]? = some x := ⟨_, List.getElem?_eq_getElem hk'⟩
                      have fx : (rowI S4)[k]? = some [.int .i64 x] := by simp [rowI, hx]
                      have hne : (x == w) = false := by
                        have : x ≠ w := fun h => hn (h ▸ List.mem_of_getElem? hx)
                        simp [this]
                      refine ⟨by omega, by omega, [.int .i64 x], fx, ?_⟩
                      conv => whnf
                      refine And.intro (fun q => absurd (q.symm.trans hne) (by decide)) (fun _ => ?_)
                      conv => whnf
                      intro z hz
                      conv => whnf
                      rw [wrap_small (by omega) (by omega)] at hz
                      subst hz
                      refine ⟨k + 1, [0, 1, 2], by omega, by omega, And.intro rfl (And.intro ?_ ?_)⟩
                      all_goals (repeat' (first | exact True.intro | exact rfl | refine And.intro ?_ ?_))
                    · conv => whnf
                      refine And.intro (fun _ => ?_) (fun h => absurd h (by decide))
                      conv => whnf
                      rw [takeI]
                      refine ⟨_, _, n1 _, And.intro rfl flat_nil, ?_⟩
                      conv => whnf
                      refine ⟨[], rfl, ?_, True.intro⟩
                      exact rfl
end Go.Proofs.Ve

/- Plain laws of Ask and Drop: what may be, may be behind them. -/
set_option maxRecDepth 100000
set_option linter.all false
namespace Go.Proofs.Ve
open Go
/-! ### modes -/
def ms : List Int := [1, 2, 3, 4, 5]
theorem mIs_mem {m : Int} (h : mIs m = true) : m ∈ ms := by
  rcases mIs_cases h with rfl | rfl | rfl | rfl | rfl <;> decide
theorem join_tab : ∀ a ∈ ms, ∀ b ∈ ms, (mIs (mJoin a b) && (mCovers (mJoin a b) a && mCovers (mJoin a b) b)) = true := by decide
theorem fits_tab : ∀ y ∈ ms, ∀ a ∈ ms, ∀ b ∈ ms, (!mCovers a b || (!mFits y a || mFits y b)) = true := by decide
theorem flip_tab : ∀ a ∈ ms, ∀ b ∈ ms, (mFits a b == mFits b a) = true := by decide
theorem covers_is {a b : Int} (h : mCovers a b = true) : mIs a = true ∧ mIs b = true := by
  unfold mCovers at h
  cases ha : mIs a <;> cases hb : mIs b <;> simp_all
theorem join_is {a b : Int} (ha : mIs a = true) (hb : mIs b = true) : mIs (mJoin a b) = true ∧ mCovers (mJoin a b) a = true ∧ mCovers (mJoin a b) b = true := by
  have := join_tab a (mIs_mem ha) b (mIs_mem hb)
  simpa using this
theorem fits_is {a b : Int} (h : mFits a b = true) : mIs a = true ∧ mIs b = true := by
  unfold mFits at h
  cases ha : mIs a <;> cases hb : mIs b <;> simp_all
theorem fits_cov {y a b : Int} (hc : mCovers a b = true) (h : mFits y a = true) : mFits y b = true := by
  have := fits_tab y (mIs_mem (fits_is h).1) a (mIs_mem (covers_is hc).1) b (mIs_mem (covers_is hc).2)
  rw [hc, h] at this; simpa using this
theorem fits_flip (a b : Int) : mFits a b = mFits b a := by
  cases ha : mIs a with
  | false => unfold mFits; rw [ha]; simp
  | true =>
    cases hb : mIs b with
    | false => unfold mFits; rw [hb]; simp
    | true => simpa using flip_tab a (mIs_mem ha) b (mIs_mem hb)
/-! ### clashes -/
theorem meets_flip (a b : Span) : sMeets a b = sMeets b a := by
  rw [meets_eq, meets_eq]
  unfold rMeets
  cases h : (a.t == b.t) with
  | false => rw [show (b.t == a.t) = false by rw [Bool.beq_comm]; exact h]; rfl
  | true =>
    have : a.t = b.t := by simpa using h
    rw [show (b.t == a.t) = true by rw [Bool.beq_comm]; exact h, this]
    simp [Bool.or_comm]
theorem clash_flip (a b : Lock) : lClash a b = lClash b a := by
  unfold lClash
  have e1 : (a.owner == b.owner) = (b.owner == a.owner) := Bool.beq_comm
  have e2 : (a.span.t != b.span.t) = (b.span.t != a.span.t) := by unfold bne; rw [Bool.beq_comm]
  have e3 : (a.whole == b.whole) = (b.whole == a.whole) := Bool.beq_comm
  rw [meets_flip a.span b.span, e1, e2, e3, fits_flip a.mode b.mode, Bool.or_comm (a.mode == 5)]
  cases h : (b.owner == a.owner || (b.span.t != a.span.t || !(b.whole == a.whole))) with
  | true => rw [if_pos rfl, if_pos rfl]
  | false =>
    have : a.whole = b.whole := by simp at h; exact h.2.2.symm
    rw [this]
/-- At least as much, of one owner. -/
def covL (a b : Lock) : Prop := a = b ∨ (a.whole = true ∧ b.whole = true ∧ a.owner = b.owner ∧ a.span.t = b.span.t ∧ mCovers a.mode b.mode = true)
theorem clash_cov {a b z : Lock} (h : covL a b) (hc : lClash z b = true) : lClash z a = true := by
  rcases h with rfl | ⟨h1, h2, h3, h4, h5⟩
  · exact hc
  · unfold lClash at hc ⊢
    rw [h1, h3, h4]
    rw [h2] at hc
    cases hz : z.whole with
    | false => rw [hz] at hc; simp at hc
    | true =>
      rw [hz] at hc
      split at hc
      · cases hc
      · next hn =>
        rw [if_neg hn]
        simp only [if_true] at hc ⊢
        cases hf : mFits z.mode a.mode with
        | false => rfl
        | true => rw [fits_cov h5 hf] at hc; cases hc
theorem clash_cov' {a b z : Lock} (h : covL a b) (hc : lClash b z = true) : lClash a z = true := by
  rw [clash_flip] at hc ⊢; exact clash_cov h hc
/-! ### what Check says -/
structure Ok (l : Locks) : Prop where
  size : l.held.length + l.queue.length ≤ 40
  may1 : ∀ y ∈ l.held, lMay y = true
  may2 : ∀ y ∈ l.queue, lMay y = true
  own : l.queue.Pairwise fun a b => a.owner ≠ b.owner
  wait : ∀ (k : Nat) y, l.queue[k]? = some y → ∃ z ∈ l.held ++ l.queue.take k, lClash z y = true
  single : l.held.Pairwise fun a b => lTwice b a = false
  weak : ∀ y ∈ l.queue, ∀ h ∈ l.held, lWeak y h = false
theorem ahead_pos (l : Locks) (x : Lock) (k : Nat) : decide (((lAhead l x k).length : Int) > 0) = (l.held ++ l.queue.take k).any fun z => lClash z x := by
  rw [Bool.eq_iff_iff, List.any_eq_true, decide_eq_true_eq]
  have hm : ∀ z, z ∈ lAhead l x k ↔ z ∈ aheadOf x (l.held ++ l.queue.take k) := fun z => once_mem _ z
  constructor
  · intro h
    obtain ⟨z, hz⟩ : ∃ z, z ∈ lAhead l x k := by
      cases hl : lAhead l x k with
      | nil => rw [hl] at h; simp at h
      | cons a l2 => exact ⟨a, List.mem_cons_self ..⟩
    rw [hm] at hz
    unfold aheadOf at hz
    obtain ⟨w, hw, rfl⟩ := List.mem_map.1 hz
    exact ⟨w, (List.mem_filter.1 hw).1, (List.mem_filter.1 hw).2⟩
  · rintro ⟨w, hw, hc⟩
    have : w.owner ∈ lAhead l x k := (hm _).2 (List.mem_map.2 ⟨w, List.mem_filter.2 ⟨hw, hc⟩, rfl⟩)
    have := List.length_pos_of_mem this
    omega
theorem single_iff : ∀ (xs pre : List Lock), singleFrom pre xs = true ↔ (∀ x ∈ xs, ∀ y ∈ pre, lTwice x y = false) ∧ xs.Pairwise fun a b => lTwice b a = false
  | [], pre => by simp [singleFrom]
  | x :: xs, pre => by
    rw [singleFrom, List.pairwise_cons]
    cases h : pre.any (lTwice x) with
    | true =>
      simp only [cond_true, Bool.false_eq_true, false_iff]
      rintro ⟨h1, _⟩
      obtain ⟨y, hy, hxy⟩ := List.any_eq_true.1 h
      rw [h1 x (List.mem_cons_self ..) y hy] at hxy; cases hxy
    | false =>
      rw [cond_false, single_iff xs (pre ++ [x])]
      have h0 : ∀ y ∈ pre, lTwice x y = false := fun y hy => by
        cases hxy : lTwice x y with
        | false => rfl
        | true => rw [List.any_eq_true.2 ⟨y, hy, hxy⟩] at h; cases h
      constructor
      · rintro ⟨h1, h2⟩
        refine ⟨fun z hz y hy => ?_, fun z hz => h1 z hz x (by simp), h2⟩
        rcases List.mem_cons.1 hz with rfl | hz
        · exact h0 y hy
        · exact h1 z hz y (by simp [hy])
      · rintro ⟨h1, h2, h3⟩
        refine ⟨fun z hz y hy => ?_, h3⟩
        rcases List.mem_append.1 hy with hy | hy
        · exact h1 z (List.mem_cons_of_mem _ hz) y hy
        · rw [List.mem_singleton.1 hy]; exact h2 z hz
theorem lQ_iff (l : Locks) : ∀ (xs : List Lock) (k : Nat), lQ l xs k = true ↔ ∀ (i : Nat) y, xs[i]? = some y → lQok l y (k + i) = true
  | [], k => by simp [lQ]
  | x :: xs, k => by
    rw [lQ]
    cases h : lQok l x k with
    | false =>
      simp only [cond_false, Bool.false_eq_true, false_iff]
      intro hn
      have := hn 0 x rfl
      rw [Nat.add_zero, h] at this; cases this
    | true =>
      rw [cond_true, lQ_iff l xs (k + 1)]
      constructor
      · intro h1 i y hy
        cases i with
        | zero => simp at hy; subst hy; exact h
        | succ i => have := h1 i y (by simpa using hy); rwa [show k + 1 + i = k + (i + 1) by omega] at this
      · intro h1 i y hy
        have := h1 (i + 1) y (by simpa using hy)
        rwa [show k + (i + 1) = k + 1 + i by omega] at this
theorem qok_iff {l : Locks} {y : Lock} {k : Nat} (h : l.queue[k]? = some y) : lQok l y k = true ↔ (∀ z ∈ l.queue.take k, z.owner ≠ y.owner) ∧ ∃ z ∈ l.held ++ l.queue.take k, lClash z y = true := by
  have hk := (List.getElem?_eq_some_iff.1 h).1
  have hy := (List.getElem?_eq_some_iff.1 h).2
  have hsplit : l.queue = l.queue.take k ++ y :: l.queue.drop (k + 1) := by
    rw [← hy, ← List.drop_eq_getElem_cons hk, List.take_append_drop]
  have hp := place_new (l.queue.take k) y (l.queue.drop (k + 1))
  rw [← hsplit, List.length_take, Nat.min_eq_left (by omega)] at hp
  unfold lQok
  rw [hp, ahead_pos, Bool.and_eq_true, List.any_eq_true]
  constructor
  · rintro ⟨h1, h2⟩
    refine ⟨fun z hz he => ?_, h2⟩
    have : ((l.queue.take k).any fun z => z.owner == y.owner) = true := List.any_eq_true.2 ⟨z, hz, by simpa using he⟩
    rw [this] at h1; cases h1
  · rintro ⟨h1, h2⟩
    refine ⟨?_, h2⟩
    cases ha : (l.queue.take k).any (fun z => z.owner == y.owner) with
    | false => rfl
    | true =>
      obtain ⟨z, hz, he⟩ := List.any_eq_true.1 ha
      exact absurd (by simpa using he) (h1 z hz)
theorem own_iff (l : List Lock) : (l.Pairwise fun a b => a.owner ≠ b.owner) ↔ ∀ (k : Nat) y, l[k]? = some y → ∀ z ∈ l.take k, z.owner ≠ y.owner := by
  rw [List.pairwise_iff_getElem]
  constructor
  · intro h k y hy z hz
    obtain ⟨i, hi, rfl⟩ := List.mem_iff_getElem.1 hz
    rw [List.length_take] at hi
    obtain ⟨hk, rfl⟩ := List.getElem?_eq_some_iff.1 hy
    rw [List.getElem_take]
    exact h i k (by omega) hk (by omega)
  · intro h i j hi hj hij
    refine h j l[j] (List.getElem?_eq_getElem hj) _ (List.mem_iff_getElem.2 ⟨i, by rw [List.length_take]; omega, ?_⟩)
    rw [List.getElem_take]
theorem check_iff (l : Locks) : lCheck l = true ↔ Ok l := by
  unfold lCheck
  simp only [Bool.and_eq_true, Bool.not_eq_true', Bool.or_eq_false_iff, decide_eq_false_iff_not]
  have any1 : ∀ l : List Lock, (l.any fun x => !lMay x) = false ↔ ∀ y ∈ l, lMay y = true := fun l => by
    rw [List.any_eq_false]; simp
  have any2 : (l.queue.any fun x => l.held.any (lWeak x)) = false ↔ ∀ y ∈ l.queue, ∀ h ∈ l.held, lWeak y h = false := by
    rw [List.any_eq_false]; simp
  rw [any1, any1, any2, single_iff, lQ_iff]
  constructor
  · rintro ⟨⟨h1, h2, h3⟩, h4, ⟨_, h5⟩, h6⟩
    have h4 := fun k y (hy : l.queue[k]? = some y) => (qok_iff hy).1 (by have := h4 k y hy; rwa [Nat.zero_add] at this)
    exact ⟨by omega, h2, h3, (own_iff _).2 fun k y hy => (h4 k y hy).1, fun k y hy => (h4 k y hy).2, h5, h6⟩
  · rintro ⟨h1, h2, h3, h4, h5, h6, h7⟩
    refine ⟨⟨by omega, h2, h3⟩, fun i y hy => ?_, ⟨fun _ _ y hy => (by cases hy), h6⟩, h7⟩
    rw [Nat.zero_add]
    exact (qok_iff hy).2 ⟨(own_iff _).1 h4 i y hy, h5 i y hy⟩
/-! ### one more -/
theorem idxOf_neg {α : Type} (p : α → Bool) : ∀ (l : List α) (k : Int), 0 ≤ k → ¬ idxOf p l k ≥ 0 → ∀ y ∈ l, p y = false
  | [], k, hk, h => fun y hy => by cases hy
  | x :: l, k, hk, h => fun y hy => by
    cases hx : p x with
    | true => rw [idxOf, hx] at h; exact absurd hk h
    | false =>
      rw [idxOf, hx] at h
      rcases List.mem_cons.1 hy with rfl | hy
      · exact hx
      · exact idxOf_neg p l (k + 1) (by omega) h y hy
theorem may_mode {x : Lock} (h : lMay x = true) (hw : x.whole = true) : mIs x.mode = true := by
  unfold lMay at h
  split at h
  · cases h
  · simp only [Bool.and_eq_true] at h; exact (covers_is h.2).1
theorem may_with {x : Lock} (h : lMay x = true) (hw : x.whole = true) {m : Int} (hm : mIs m = true) : lMay { x with mode := m } = true := by
  unfold lMay at h ⊢
  dsimp only at h ⊢
  split at h
  · cases h
  · next hn =>
    rw [if_neg hn]
    rw [hw]
    simp only [if_true, Bool.and_eq_true] at h ⊢
    exact ⟨h.1, by rw [covers_self]; exact hm⟩
theorem may_owner {x : Lock} (h : lMay x = true) : 0 ≤ x.owner ∧ x.owner < 4 := by
  unfold lMay at h
  split at h
  · cases h
  · next hn => simp at hn; omega
theorem may_small {x : Lock} (h : lMay x = true) : x.span.lo.length ≤ 17 ∧ x.span.hi.length ≤ 17 := by
  unfold lMay at h
  split at h
  · cases h
  · next hn =>
    simp at hn
    have := hn.2.2
    unfold sCheck at this
    simp at this
    omega
theorem twice_whole {x y : Lock} (h : lWholeP x y = true) : lTwice x y = true := by
  unfold lWholeP at h; unfold lTwice
  simp at h ⊢
  exact .inr ⟨⟨⟨h.1.1.1, h.1.1.2⟩, h.1.2.symm⟩, h.2.symm⟩
theorem twice_of {x y : Lock} (h1 : lClash x y = false) (h2 : lWholeP x y = false) : lTwice x y = false := by
  unfold lWholeP at h2; unfold lTwice
  rw [h1]
  rw [show (x.owner == y.owner) = (y.owner == x.owner) from Bool.beq_comm, show (x.span.t == y.span.t) = (y.span.t == x.span.t) from Bool.beq_comm, h2]; rfl
theorem whole_flip {x y : Lock} (h : lWholeP x y = true) : lWholeP y x = true := by
  unfold lWholeP at h ⊢; simp at h ⊢
  exact ⟨⟨⟨h.1.1.2, h.1.1.1⟩, h.1.2.symm⟩, h.2.symm⟩
theorem whole_trans {x y z : Lock} (h : lWholeP x y = true) (k : lWholeP y z = true) : lWholeP x z = true := by
  unfold lWholeP at h k ⊢; simp at h k ⊢
  exact ⟨⟨⟨h.1.1.1, k.1.1.2⟩, k.1.2.trans h.1.2⟩, k.2.trans h.2⟩
/-- Held once, beside others. -/
structure HoldOk (L : List Lock) (x : Lock) (R : List Lock) : Prop where
  mem : ∀ z ∈ R, z = x ∨ z ∈ L
  has : x ∈ R
  cov : ∀ z ∈ L, ∃ z' ∈ R, covL z' z
  single : R.Pairwise fun a b => lTwice b a = false
  len : R.length ≤ L.length + 1
theorem hold_ok {L : List Lock} {x : Lock} (hs : L.Pairwise fun a b => lTwice b a = false) (hc : ∀ z ∈ L, lClash z x = false) (hm : ∀ z ∈ L, lWholeP x z = true → mCovers x.mode z.mode = true) : HoldOk L x (holdL L x) := by
  have hc' : ∀ z ∈ L, lClash x z = false := fun z hz => by rw [clash_flip]; exact hc z hz
  unfold holdL
  split
  · next h =>
    obtain ⟨h0, y, hy, hp⟩ := idxOf_lt (lWholeP x) L 0 (Int.le_refl _) h
    rw [show idxOf (lWholeP x) L 0 = lWhole L x from rfl, Int.sub_zero] at hy
    generalize (lWhole L x).toNat = i at hy ⊢
    have hi := (List.getElem?_eq_some_iff.1 hy).1
    have hyi := (List.getElem?_eq_some_iff.1 hy).2
    have other : ∀ (j : Nat) (hj : j < L.length), j ≠ i → lWholeP x L[j] = false := fun j hj hne => by
      cases hpj : lWholeP x L[j] with
      | false => rfl
      | true =>
        have h1 : lWholeP L[j] L[i] = true := whole_trans (whole_flip hpj) (by rw [hyi]; exact hp)
        have h2 : lWholeP L[i] L[j] = true := whole_flip h1
        rw [List.pairwise_iff_getElem] at hs
        rcases Nat.lt_or_gt_of_ne hne with hlt | hlt
        · have := hs j i hj hi hlt
          rw [twice_whole h2] at this; cases this
        · have := hs i j hi hj hlt
          rw [twice_whole h1] at this; cases this
    refine ⟨fun z hz => ?_, ?_, fun z hz => ?_, ?_, by simp⟩
    · rcases List.mem_or_eq_of_mem_set hz with h | h
      · exact .inr h
      · exact .inl h
    · exact List.mem_iff_getElem.2 ⟨i, by simpa using hi, by simp⟩
    · obtain ⟨j, hj, rfl⟩ := List.mem_iff_getElem.1 hz
      by_cases hji : j = i
      · subst hji
        refine ⟨x, List.mem_iff_getElem.2 ⟨j, by simpa using hj, by simp⟩, .inr ?_⟩
        have hp' : lWholeP x L[j] = true := by rw [hyi]; exact hp
        have hm' := hm _ (List.getElem_mem hj) hp'
        unfold lWholeP at hp'
        simp at hp'
        exact ⟨hp'.1.1.1, hp'.1.1.2, hp'.1.2.symm, hp'.2.symm, hm'⟩
      · exact ⟨L[j], List.mem_iff_getElem.2 ⟨j, by simpa using hj, by rw [List.getElem_set]; rw [if_neg (Ne.symm hji)]⟩, .inl rfl⟩
    · rw [List.pairwise_iff_getElem] at hs ⊢
      intro a b ha hb hab
      rw [List.length_set] at ha hb
      rw [List.getElem_set, List.getElem_set]
      by_cases hai : i = a
      · rw [if_pos hai, if_neg (by omega)]
        exact twice_of (hc _ (List.getElem_mem hb)) (by
          cases hw : lWholeP L[b] x with
          | false => rfl
          | true => have := other b hb (by omega); rw [whole_flip hw] at this; cases this)
      · rw [if_neg hai]
        by_cases hbi : i = b
        · rw [if_pos hbi]
          exact twice_of (hc' _ (List.getElem_mem ha)) (other a ha (by omega))
        · rw [if_neg hbi]; exact hs a b ha hb hab
  · next h =>
    have hn := idxOf_neg (lWholeP x) L 0 (Int.le_refl _) h
    refine ⟨fun z hz => ?_, by simp, fun z hz => ⟨z, by simp [hz], .inl rfl⟩, ?_, by simp⟩
    · rcases List.mem_append.1 hz with h | h
      · exact .inr h
      · exact .inl (by simpa using h)
    · rw [List.pairwise_append]
      refine ⟨hs, List.pairwise_singleton _ _, fun a ha b hb => ?_⟩
      rw [List.mem_singleton.1 hb]
      exact twice_of (hc' a ha) (hn a ha)
def push (s : Locks) (x : Lock) : Locks := if decide (((lAhead s x s.queue.length).length : Int) > 0) then ⟨s.held, s.queue ++ [x]⟩ else ⟨holdL s.held x, s.queue⟩
theorem ahead_all (s : Locks) (x : Lock) : decide (((lAhead s x s.queue.length).length : Int) > 0) = (s.held ++ s.queue).any fun z => lClash z x := by
  rw [ahead_pos, List.take_length]
theorem weak_cov {x h : Lock} (hw : lWeak x h = false) (hp : lWholeP x h = true) : mCovers x.mode h.mode = true := by
  unfold lWeak at hw; unfold lWholeP at hp
  simp at hw hp
  exact hw hp.1.1.1 hp.1.1.2 hp.1.2.symm hp.2.symm
theorem push_ok {s : Locks} {x : Lock} (h : Ok s) (hm : lMay x = true) (ho : ∀ y ∈ s.queue, y.owner ≠ x.owner) (hw : ∀ y ∈ s.held, lWeak x y = false) (hz : s.held.length + s.queue.length < 40) :
    Ok (push s x) ∧ (∀ y ∈ (push s x).held, y = x ∨ y ∈ s.held) ∧ (∀ y ∈ (push s x).queue, y = x ∨ y ∈ s.queue) ∧ (push s x).held.length + (push s x).queue.length ≤ s.held.length + s.queue.length + 1 := by
  unfold push
  rw [ahead_all]
  cases ha : (s.held ++ s.queue).any (fun z => lClash z x) with
  | true =>
    rw [if_pos rfl]
    refine ⟨⟨by simp; omega, h.may1, ?_, ?_, ?_, h.single, ?_⟩, fun y hy => .inr hy, ?_, by simp; omega⟩
    · intro y hy
      rcases List.mem_append.1 hy with hy | hy
      · exact h.may2 y hy
      · rw [List.mem_singleton.1 hy]; exact hm
    · show (s.queue ++ [x]).Pairwise _
      rw [List.pairwise_append]
      exact ⟨h.own, List.pairwise_singleton _ _, fun a ha b hb => by rw [List.mem_singleton.1 hb]; exact ho a ha⟩
    · intro k y hy
      show ∃ z ∈ s.held ++ (s.queue ++ [x]).take k, lClash z y = true
      change (s.queue ++ [x])[k]? = some y at hy
      rcases Nat.lt_or_ge k s.queue.length with hk | hk
      · rw [List.getElem?_append_left hk] at hy
        rw [List.take_append_of_le_length (Nat.le_of_lt hk)]
        exact h.wait k y hy
      · rw [List.getElem?_append_right hk] at hy
        have : k = s.queue.length := by
          rcases Nat.lt_or_ge s.queue.length k with h1 | h1
          · rw [List.getElem?_eq_none (by simp; omega)] at hy; cases hy
          · omega
        subst this
        simp at hy
        subst hy
        rw [List.take_append_of_le_length (Nat.le_refl _), List.take_length]
        obtain ⟨z, hz, hc⟩ := List.any_eq_true.1 ha
        exact ⟨z, hz, hc⟩
    · intro y hy
      rcases List.mem_append.1 hy with hy | hy
      · exact h.weak y hy
      · rw [List.mem_singleton.1 hy]; exact hw
    · intro y hy
      rcases List.mem_append.1 hy with hy | hy
      · exact .inr hy
      · exact .inl (List.mem_singleton.1 hy)
  | false =>
    rw [if_neg (by simp)]
    have hno : ∀ z ∈ s.held ++ s.queue, lClash z x = false := fun z hz => by
      cases hc : lClash z x with
      | false => rfl
      | true => rw [List.any_eq_true.2 ⟨z, hz, hc⟩] at ha; cases ha
    have hh := hold_ok h.single (fun z hz => hno z (by simp [hz])) (fun z hz hp => weak_cov (hw z hz) hp)
    refine ⟨⟨by have := hh.len; show (holdL s.held x).length + s.queue.length ≤ 40; omega, ?_, h.may2, h.own, ?_, hh.single, ?_⟩, hh.mem, fun y hy => .inr hy, by have := hh.len; show (holdL s.held x).length + s.queue.length ≤ _; omega⟩
    · intro y hy
      rcases hh.mem y hy with rfl | hy
      · exact hm
      · exact h.may1 y hy
    · intro k y hy
      obtain ⟨z, hz, hc⟩ := h.wait k y hy
      rcases List.mem_append.1 hz with hz | hz
      · obtain ⟨z', hz', hcov⟩ := hh.cov z hz
        exact ⟨z', List.mem_append.2 (.inl hz'), clash_cov' hcov hc⟩
      · exact ⟨z, List.mem_append.2 (.inr hz), hc⟩
    · intro y hy z hz
      rcases hh.mem z hz with rfl | hz
      · have := ho y hy
        unfold lWeak
        rw [show (y.owner == z.owner) = false by simpa using this]
        simp
      · exact h.weak y hy z hz
/-! ### Ask -/
theorem joined_ok {l : Locks} {x : Lock} (h : Ok l) (hm : lMay x = true) :
    covL (lJoined l x) x ∧ lMay (lJoined l x) = true ∧ (lJoined l x).owner = x.owner ∧ (lJoined l x).whole = x.whole ∧ (lJoined l x).span = x.span ∧ (x.whole = false → lJoined l x = x) ∧ ∀ y ∈ l.held, lWeak (lJoined l x) y = false := by
  unfold lJoined
  split
  · next hw =>
    obtain ⟨_, y, hy, hp⟩ := idxOf_lt (lWholeP x) l.held 0 (Int.le_refl _) hw
    rw [show idxOf (lWholeP x) l.held 0 = lWhole l.held x from rfl, Int.sub_zero] at hy
    unfold atMode
    rw [hy]
    dsimp only
    have hyl := List.mem_of_getElem? hy
    have hp' := hp
    unfold lWholeP at hp'
    simp at hp'
    have hxw : x.whole = true := hp'.1.1.1
    have hj := join_is (may_mode hm hxw) (may_mode (h.may1 y hyl) hp'.1.1.2)
    refine ⟨.inr ⟨hxw, hxw, rfl, rfl, hj.2.1⟩, may_with hm hxw hj.1, rfl, rfl, rfl, fun hf => (by rw [hxw] at hf; cases hf), fun z hz => ?_⟩
    cases hzp : lWholeP x z with
    | false =>
      unfold lWeak
      unfold lWholeP at hzp
      dsimp only
      rw [show (x.owner == z.owner) = (z.owner == x.owner) from Bool.beq_comm, show (x.span.t == z.span.t) = (z.span.t == x.span.t) from Bool.beq_comm, hzp]; rfl
    | true =>
      have : z = y := by
        have hzy := whole_trans (whole_flip hzp) hp
        obtain ⟨i, hi, hz'⟩ := List.mem_iff_getElem.1 hz
        obtain ⟨j, hj', hy'⟩ := List.mem_iff_getElem.1 hyl
        have hs := h.single
        rw [List.pairwise_iff_getElem] at hs
        rcases Nat.lt_trichotomy i j with hlt | rfl | hlt
        · have := hs i j hi hj' hlt
          rw [hz', hy', twice_whole (whole_flip hzy)] at this; cases this
        · rw [← hz', ← hy']
        · have := hs j i hj' hi hlt
          rw [hz', hy', twice_whole hzy] at this; cases this
      subst this
      unfold lWeak
      dsimp only
      rw [hj.2.2]; simp
  · next hw =>
    have hn := idxOf_neg (lWholeP x) l.held 0 (Int.le_refl _) hw
    refine ⟨.inl rfl, hm, rfl, rfl, rfl, fun _ => rfl, fun z hz => ?_⟩
    have hzp := hn z hz
    unfold lWeak
    unfold lWholeP at hzp
    rw [show (x.owner == z.owner) = (z.owner == x.owner) from Bool.beq_comm, show (x.span.t == z.span.t) = (z.span.t == x.span.t) from Bool.beq_comm, hzp]; rfl
theorem place_no {l : List Lock} {o : Int} (h : ¬ place l o ≥ 0) : ∀ y ∈ l, y.owner ≠ o := fun y hy he => by
  have := idxOf_neg (fun x : Lock => x.owner == o) l 0 (Int.le_refl _) h y hy
  simp [he] at this
theorem no_place {l : List Lock} {o : Int} (h : ∀ y ∈ l, y.owner ≠ o) : ¬ place l o ≥ 0 := fun hp => by
  obtain ⟨y, hy, ho⟩ := place_at hp
  exact h y (List.mem_of_getElem? hy) ho
theorem waits_iff (l : Locks) (o : Int) : lWaits l o = true ↔ Ok l ∧ ∃ y ∈ l.queue, y.owner = o := by
  unfold lWaits
  rw [Bool.and_eq_true, check_iff, decide_eq_true_eq]
  constructor
  · rintro ⟨h1, h2⟩
    obtain ⟨y, hy, ho⟩ := place_at h2
    exact ⟨h1, y, List.mem_of_getElem? hy, ho⟩
  · rintro ⟨h1, y, hy, ho⟩
    refine ⟨h1, Classical.byContradiction fun hn => place_no hn y hy ho⟩
theorem ask_push (l : Locks) (x : Lock) : lAsk l x = if !lCheck l || (!lMay x || lWaits l x.owner) then (l, 1) else if l.held.any (fun h => lServes h x) then (l, 0) else if decide ((l.held.length : Int) + l.queue.length ≥ 40) then (l, 111)
    else (push l (lJoined l x), if decide (((lAhead l (lJoined l x) l.queue.length).length : Int) > 0) then 110 else 0) := by
  unfold lAsk push
  repeat' split
  all_goals rfl
theorem covers_span (s : Span) : sCovers s s = true := by
  unfold sCovers
  split
  · rfl
  · simp [cmpB_eq, cm_self]
theorem serves_joined {l : Locks} {x : Lock} (h : Ok l) (hm : lMay x = true) : lServes (lJoined l x) x = true := by
  obtain ⟨h1, _, h2, h3, h4, h5, _⟩ := joined_ok h hm
  unfold lServes
  rw [h2, h3, h4]
  cases hw : x.whole with
  | true =>
    simp
    rcases h1 with h1 | h1
    · rw [h1, covers_self]; exact may_mode hm hw
    · exact h1.2.2.2.2
  | false =>
    rw [h5 hw]; simp [covers_span]
/-- What an Ask comes to. -/
theorem ask_ok {l : Locks} (h : Ok l) (x : Lock) : Ok (lAsk l x).1 ∧ (((lAsk l x).2 = 0 ∧ lAsk (lAsk l x).1 x = ((lAsk l x).1, 0)) ∨ ((lAsk l x).2 = 110 ∧ (lAsk (lAsk l x).1 x).2 = 1 ∧ lWaits (lAsk l x).1 x.owner = true) ∨ ((lAsk l x).2 ≠ 0 ∧ (lAsk l x).2 ≠ 110 ∧ (lAsk l x).1 = l)) := by
  have hc := (check_iff l).2 h
  rw [ask_push l x]
  split
  · exact ⟨h, .inr (.inr ⟨fun h => (by cases h), fun h => (by cases h), rfl⟩)⟩
  · next n1 =>
    simp [hc] at n1
    obtain ⟨hm, hw⟩ := n1
    split
    · next hs =>
      refine ⟨h, .inl ⟨rfl, ?_⟩⟩
      show lAsk l x = (l, 0)
      rw [ask_push, hc, hm, hw, if_neg (by simp), if_pos hs]
    · next n2 =>
      split
      · exact ⟨h, .inr (.inr ⟨fun h => (by cases h), fun h => (by cases h), rfl⟩)⟩
      · next n3 =>
        obtain ⟨j1, j2, j3, j4, j5, j6, j7⟩ := joined_ok h hm
        have hnq : ∀ y ∈ l.queue, y.owner ≠ x.owner := fun y hy he => by
          have := (waits_iff l x.owner).2 ⟨h, y, hy, he⟩
          rw [hw] at this; cases this
        obtain ⟨hp, _⟩ := push_ok h j2 (fun y hy => by rw [j3]; exact hnq y hy) j7 (by simp at n3; omega)
        refine ⟨hp, ?_⟩
        dsimp only
        unfold push at hp ⊢
        cases ha : decide (((lAhead l (lJoined l x) l.queue.length).length : Int) > 0) with
        | true =>
          rw [ha] at hp
          have hwt : lWaits ⟨l.held, l.queue ++ [lJoined l x]⟩ x.owner = true := (waits_iff _ _).2 ⟨hp, lJoined l x, by simp, j3⟩
          refine .inr (.inl ⟨rfl, ?_, hwt⟩)
          show (lAsk ⟨l.held, l.queue ++ [lJoined l x]⟩ x).2 = 1
          unfold lAsk
          rw [hwt, if_pos (by simp)]
        | false =>
          rw [ha] at hp
          refine .inl ⟨rfl, ?_⟩
          show lAsk ⟨holdL l.held (lJoined l x), l.queue⟩ x = (_, 0)
          have hp : Ok ⟨holdL l.held (lJoined l x), l.queue⟩ := hp
          have hnw : lWaits ⟨holdL l.held (lJoined l x), l.queue⟩ x.owner = false := by
            cases hq : lWaits ⟨holdL l.held (lJoined l x), l.queue⟩ x.owner with
            | false => rfl
            | true =>
              obtain ⟨_, y, hy, he⟩ := (waits_iff _ _).1 hq
              exact absurd he (hnq y hy)
          rw [ask_push, (check_iff _).2 hp, hm, hnw, if_neg (by simp)]
          have hno : ∀ z ∈ l.held, lClash z (lJoined l x) = false := fun z hz => by
            rw [ahead_all] at ha
            cases hcz : lClash z (lJoined l x) with
            | false => rfl
            | true => rw [List.any_eq_true.2 ⟨z, List.mem_append.2 (.inl hz), hcz⟩] at ha; cases ha
          have hh := hold_ok h.single hno (fun z hz hp => weak_cov (j7 z hz) hp)
          have hsv : lServes (lJoined l x) x = true := serves_joined h hm
          rw [if_pos (List.any_eq_true.2 ⟨lJoined l x, hh.has, hsv⟩)]
          rfl
/-- LockAlone's. -/
theorem ask_alone {l : Locks} (h : Ok l) (x : Lock) (hx : (l.held ++ l.queue).any (fun y => lClash y x) = true) : (lAsk l x).2 ≠ 0 ∨ (lAsk l x).1 = l := by
  rw [ask_push l x]
  split
  · exact .inr rfl
  · next n1 =>
    have hc := (check_iff l).2 h
    simp [hc] at n1
    split
    · exact .inr rfl
    · split
      · exact .inr rfl
      · obtain ⟨j1, _⟩ := joined_ok h n1.1
        obtain ⟨z, hz, hcz⟩ := List.any_eq_true.1 hx
        have hcc : lClash z (lJoined l x) = true := clash_cov j1 hcz
        rw [ahead_all, List.any_eq_true.2 ⟨z, hz, hcc⟩]
        exact .inl (fun h => by cases h)
/-! ### Drop -/
theorem drop_push : dropStep = fun s x => (push s.1 x, if decide (((lAhead s.1 x s.1.queue.length).length : Int) > 0) then s.2 else s.2 ++ [x.owner]) := by
  funext s x
  unfold dropStep push
  split <;> rfl
structure Pre (s : Locks) (rest : List Lock) (o : Int) : Prop where
  ok : Ok s
  size : s.held.length + s.queue.length + rest.length ≤ 40
  may : ∀ y ∈ rest, lMay y = true
  own : (s.queue ++ rest).Pairwise fun a b => a.owner ≠ b.owner
  weak : ∀ y ∈ rest, ∀ h ∈ s.held, lWeak y h = false
  gone : ∀ y ∈ s.held ++ s.queue ++ rest, y.owner ≠ o
theorem pre_fold (o : Int) (M : Lock → Prop) : ∀ (rest : List Lock) (s : Locks) (g : List Int), Pre s rest o → (∀ y ∈ s.held ++ s.queue ++ rest, M y) → Pre (rest.foldl dropStep (s, g)).1 [] o ∧ ∀ y ∈ (rest.foldl dropStep (s, g)).1.held ++ (rest.foldl dropStep (s, g)).1.queue, M y
  | [], s, g, h, hM => ⟨h, fun y hy => hM y (by simpa using hy)⟩
  | x :: rest, s, g, h, hM => by
    rw [List.foldl_cons]
    have hstep : dropStep (s, g) x = (push s x, (dropStep (s, g) x).2) := by rw [drop_push]
    rw [hstep]
    have ho := h.own
    rw [List.pairwise_append] at ho
    obtain ⟨o1, o2, o3⟩ := ho
    rw [List.pairwise_cons] at o2
    have hsz := h.size
    rw [List.length_cons] at hsz
    obtain ⟨k1, k2, k3, k4⟩ := push_ok h.ok (h.may x (List.mem_cons_self ..)) (fun y hy => o3 y hy x (List.mem_cons_self ..)) (h.weak x (List.mem_cons_self ..)) (by omega)
    have hall : ∀ y ∈ (push s x).held ++ (push s x).queue ++ rest, y ∈ s.held ++ s.queue ++ x :: rest := fun y hy => by
      simp only [List.mem_append, List.mem_cons] at hy ⊢
      rcases hy with (hy | hy) | hy
      · rcases k2 y hy with rfl | hy
        · exact .inr (.inl rfl)
        · exact .inl (.inl hy)
      · rcases k3 y hy with rfl | hy
        · exact .inr (.inl rfl)
        · exact .inl (.inr hy)
      · exact .inr (.inr hy)
    refine pre_fold o M rest (push s x) _ ⟨k1, by omega, fun y hy => h.may y (List.mem_cons_of_mem _ hy), ?_, fun y hy z hz => ?_, fun y hy => h.gone y (hall y hy)⟩ (fun y hy => hM y (hall y hy))
    · rw [List.pairwise_append]
      refine ⟨k1.own, o2.2, fun a ha b hb => ?_⟩
      rcases k3 a ha with rfl | ha
      · exact o2.1 b hb
      · exact o3 a ha b (List.mem_cons_of_mem _ hb)
    · rcases k2 z hz with rfl | hz
      · have := o2.1 y hy
        unfold lWeak
        rw [show (y.owner == z.owner) = false by simpa using this.symm]
        simp
      · exact h.weak y (List.mem_cons_of_mem _ hy) z hz
theorem rid_mem {o : Int} {l : List Lock} {y : Lock} (h : y ∈ rid o l) : y ∈ l ∧ y.owner ≠ o := by
  unfold rid at h
  obtain ⟨h1, h2⟩ := List.mem_filter.1 h
  exact ⟨h1, by simpa using h2⟩
/-- What a Drop comes to. -/
theorem drop_ok {l : Locks} (h : Ok l) (o : Int) : Ok (lDrop l o).1 ∧ (∀ y ∈ (lDrop l o).1.held ++ (lDrop l o).1.queue, y ∈ l.held ++ l.queue ∧ (0 ≤ o ∧ o < 4 → y.owner ≠ o)) := by
  unfold lDrop
  rw [(check_iff l).2 h]
  split
  · next hn =>
    refine ⟨h, fun y hy => ⟨hy, fun ho => ?_⟩⟩
    simp at hn; omega
  · have l1 : (rid o l.held).length ≤ l.held.length := List.length_filter_le _ _
    have l2 : (rid o l.queue).length ≤ l.queue.length := List.length_filter_le _ _
    have hsz := h.size
    have hok : Ok ⟨rid o l.held, []⟩ := ⟨by show (rid o l.held).length + 0 ≤ 40; omega, fun y hy => h.may1 y (rid_mem hy).1, fun y hy => (by cases hy), List.Pairwise.nil, fun k y hy => (by simp at hy), h.single.filter _, fun y hy => (by cases hy)⟩
    obtain ⟨h1, h2⟩ := pre_fold o (fun y => y ∈ l.held ++ l.queue) (rid o l.queue) ⟨rid o l.held, []⟩ [] ⟨hok, by show (rid o l.held).length + 0 + (rid o l.queue).length ≤ 40; omega, fun y hy => h.may2 y (rid_mem hy).1, by
        rw [List.nil_append]; exact h.own.filter _, fun y hy z hz => h.weak y (rid_mem hy).1 z (rid_mem hz).1, fun y hy => by
        simp only [List.append_nil, List.mem_append] at hy
        rcases hy with hy | hy <;> exact (rid_mem hy).2⟩ (fun y hy => by
        simp only [List.append_nil, List.mem_append] at hy ⊢
        rcases hy with hy | hy
        · exact .inl (rid_mem hy).1
        · exact .inr (rid_mem hy).1)
    exact ⟨h1.ok, fun y hy => ⟨h2 y hy, fun _ => h1.gone y (by rw [List.append_nil]; exact hy)⟩⟩
/-! ### small -/
theorem ok_small {l : Locks} (h : Ok l) : smallLs l :=
  ⟨by have := h.size; omega, by have := h.size; omega, fun x hx => by have := may_small (h.may1 x hx); exact ⟨by omega, by omega⟩, fun x hx => by have := may_small (h.may2 x hx); exact ⟨by omega, by omega⟩⟩
theorem small_check {l : Locks} (h : lCheck l = true) : smallLs l := ok_small ((check_iff l).1 h)
theorem small_short {x : Lock} (h : short x = true) : smallX x := by
  unfold short at h
  simp at h
  exact ⟨by omega, by omega⟩
theorem ok_empty : Ok ⟨[], []⟩ := ⟨by simp, fun y hy => (by cases hy), fun y hy => (by cases hy), .nil, fun k y hy => (by simp at hy), .nil, fun y hy => (by cases hy)⟩
/-- Who all have gone. -/
theorem all_gone {l : Locks} (h : Ok l) : (lDrop (lDrop (lDrop (lDrop l 0).1 1).1 2).1 3).1 = ⟨[], []⟩ := by
  obtain ⟨a1, a2⟩ := drop_ok h 0
  obtain ⟨b1, b2⟩ := drop_ok a1 1
  obtain ⟨c1, c2⟩ := drop_ok b1 2
  obtain ⟨d1, d2⟩ := drop_ok c1 3
  generalize hr : (lDrop (lDrop (lDrop (lDrop l 0).1 1).1 2).1 3).1 = r at d1 d2 ⊢
  have none : ∀ y ∈ r.held ++ r.queue, False := fun y hy => by
    obtain ⟨m3, n3⟩ := d2 y hy
    obtain ⟨m2, n2⟩ := c2 y m3
    obtain ⟨m1, n1⟩ := b2 y m2
    obtain ⟨m0, n0⟩ := a2 y m1
    have hm : lMay y = true := by
      rcases List.mem_append.1 m0 with hm | hm
      · exact h.may1 y hm
      · exact h.may2 y hm
    have := may_owner hm
    have := n0 (by omega); have := n1 (by omega); have := n2 (by omega); have := n3 (by omega)
    omega
  obtain ⟨rh, rq⟩ := r
  have e1 : rh = [] := List.eq_nil_iff_forall_not_mem.2 fun y hy => none y (List.mem_append.2 (.inl hy))
  have e2 : rq = [] := List.eq_nil_iff_forall_not_mem.2 fun y hy => none y (List.mem_append.2 (.inr hy))
  rw [e1, e2]
end Go.Proofs.Ve

/- Plain laws of waiting: whom a Drop leaves waiting. -/
set_option maxRecDepth 100000
set_option linter.all false
namespace Go.Proofs.Ve
open Go
/-- Somebody (o) stands in a queue behind b, whom it clashes with. -/
def PE (h q : List Lock) (o b : Int) : Prop := ∃ pre y post, q = pre ++ y :: post ∧ y.owner = o ∧ ∃ z ∈ h ++ pre, lClash z y = true ∧ z.owner = b
theorem edges_to (l : Locks) (a b : Int) : ∀ n, (a, b) ∈ edgesTo l n ↔ ∃ o : Nat, o < n ∧ a = o ∧ b ∈ lBlockers l o
  | 0 => by simp [edgesTo]
  | n + 1 => by
    rw [edgesTo, List.mem_append, edges_to l a b n]
    unfold edgesO
    rw [List.mem_map]
    constructor
    · rintro (⟨o, h1, h2, h3⟩ | ⟨x, hx, he⟩)
      · exact ⟨o, by omega, h2, h3⟩
      · simp only [Prod.mk.injEq] at he
        obtain ⟨rfl, rfl⟩ := he
        exact ⟨n, by omega, rfl, hx⟩
    · rintro ⟨o, h1, h2, h3⟩
      rcases Nat.lt_or_ge o n with h | h
      · exact .inl ⟨o, h, h2, h3⟩
      · obtain rfl : o = n := by omega
        exact .inr ⟨b, h3, by rw [h2]⟩
theorem ahead_mem (l : Locks) (y : Lock) (k : Nat) (b : Int) : b ∈ lAhead l y k ↔ ∃ z ∈ l.held ++ l.queue.take k, lClash z y = true ∧ z.owner = b := by
  rw [show b ∈ lAhead l y k ↔ b ∈ aheadOf y (l.held ++ l.queue.take k) from once_mem _ _]
  unfold aheadOf
  rw [List.mem_map]
  constructor
  · rintro ⟨z, hz, rfl⟩
    obtain ⟨h1, h2⟩ := List.mem_filter.1 hz
    exact ⟨z, h1, h2, rfl⟩
  · rintro ⟨z, h1, h2, rfl⟩
    exact ⟨z, List.mem_filter.2 ⟨h1, h2⟩, rfl⟩
theorem blockers_iff (l : Locks) (o b : Int) : b ∈ lBlockers l o ↔ Ok l ∧ PE l.held l.queue o b := by
  unfold lBlockers
  cases hw : lWaits l o with
  | false =>
    simp only [Bool.false_eq_true, if_false]
    constructor
    · intro h; cases h
    · rintro ⟨h1, pre, y, post, hq, ho, _⟩
      rw [(waits_iff l o).2 ⟨h1, y, by rw [hq]; simp, ho⟩] at hw; cases hw
  | true =>
    simp only [if_true]
    obtain ⟨hok, y0, hy0, ho0⟩ := (waits_iff l o).1 hw
    have hpl : place l.queue o ≥ 0 := Classical.byContradiction fun hn => place_no hn y0 hy0 ho0
    obtain ⟨y, hy, ho⟩ := place_at hpl
    have hk := (List.getElem?_eq_some_iff.1 hy).1
    have hyk := (List.getElem?_eq_some_iff.1 hy).2
    rw [hy]
    dsimp only
    rw [ahead_mem]
    constructor
    · rintro ⟨z, hz, hc, rfl⟩
      refine ⟨hok, l.queue.take (place l.queue o).toNat, y, l.queue.drop ((place l.queue o).toNat + 1), ?_, ho, z, hz, hc, rfl⟩
      rw [← hyk, ← List.drop_eq_getElem_cons hk, List.take_append_drop]
    · rintro ⟨_, pre, x, post, hq, hxo, z, hz, hc, rfl⟩
      have hpos := place_new pre x post
      have hno : (pre.any fun y => y.owner == x.owner) = false := by
        rw [List.any_eq_false]
        intro u hu he
        have hp := hok.own
        rw [hq, List.pairwise_append] at hp
        exact hp.2.2 u hu x (List.mem_cons_self ..) (by simpa using he)
      rw [hno, ← hq, hxo] at hpos
      have hpos : place l.queue o = (pre.length : Int) := by simpa using hpos
      have hn : (place l.queue o).toNat = pre.length := by omega
      rw [hn] at hy ⊢
      rw [hq] at hy
      simp at hy
      subst hy
      refine ⟨z, ?_, hc, rfl⟩
      rw [hq, List.take_left']
      · exact hz
      · rfl
theorem edge_iff (l : Locks) (a b : Int) : (a, b) ∈ edgesL l ↔ (0 ≤ a ∧ a < 4) ∧ Ok l ∧ PE l.held l.queue a b := by
  unfold edgesL
  rw [edges_to]
  constructor
  · rintro ⟨o, h1, rfl, h⟩
    exact ⟨⟨by omega, by omega⟩, (blockers_iff _ _ _).1 h⟩
  · rintro ⟨⟨h1, h2⟩, h⟩
    obtain ⟨o, rfl⟩ : ∃ o : Nat, a = o := ⟨a.toNat, by omega⟩
    exact ⟨o, by omega, rfl, (blockers_iff _ _ _).2 h⟩
theorem hold_mem {L : List Lock} {x z : Lock} (h : z ∈ holdL L x) : z = x ∨ z ∈ L := by
  unfold holdL at h
  split at h
  · exact (List.mem_or_eq_of_mem_set h).symm
  · rcases List.mem_append.1 h with h | h
    · exact .inr h
    · exact .inl (by simpa using h)
/-- Whoever is put in its place waits for nobody anew, and nobody for it. -/
theorem pe_push {s : Locks} {x : Lock} {rest : List Lock} {o b : Int} (h : PE (push s x).held ((push s x).queue ++ rest) o b) : PE s.held (s.queue ++ x :: rest) o b := by
  unfold push at h
  rw [ahead_all] at h
  cases hc : (s.held ++ s.queue).any fun z => lClash z x with
  | true =>
    rw [hc] at h
    simp only [if_true] at h
    simpa using h
  | false =>
    rw [hc] at h
    simp only [Bool.false_eq_true, if_false] at h
    have hno : ∀ z ∈ s.queue, lClash z x = false := fun z hz => by
      rw [List.any_eq_false] at hc
      simpa using hc z (List.mem_append_right _ hz)
    obtain ⟨pre, y, post, hq, ho, z, hz, hcl, hb⟩ := h
    rcases List.append_eq_append_iff.1 hq with ⟨r1, h1, h2⟩ | ⟨q2, h1, h2⟩
    · -- y stands in what is still to come
      refine ⟨s.queue ++ x :: r1, y, post, by rw [h2]; simp, ho, z, ?_, hcl, hb⟩
      rw [h1] at hz
      simp only [List.mem_append, List.mem_cons] at hz ⊢
      rcases hz with hz | hz | hz
      · rcases hold_mem hz with rfl | hz
        · exact .inr (.inr (.inl rfl))
        · exact .inl hz
      · exact .inr (.inl hz)
      · exact .inr (.inr (.inr hz))
    · -- y stands in the queue already, or is the first of what is to come
      cases q2 with
      | nil =>
        simp at h1 h2
        refine ⟨s.queue ++ [x], y, post, by rw [← h2]; simp, ho, z, ?_, hcl, hb⟩
        rw [← h1] at hz
        simp only [List.mem_append, List.mem_singleton] at hz ⊢
        rcases hz with hz | hz
        · rcases hold_mem hz with rfl | hz
          · exact .inr (.inr rfl)
          · exact .inl hz
        · exact .inr (.inl hz)
      | cons y' q2 =>
        simp at h2
        obtain ⟨rfl, rfl⟩ := h2
        refine ⟨pre, y, q2 ++ x :: rest, by rw [h1]; simp, ho, z, ?_, hcl, hb⟩
        rcases List.mem_append.1 hz with hz | hz
        · rcases hold_mem hz with rfl | hz
          · have := hno y (by rw [h1]; simp)
            rw [clash_flip, hcl] at this; cases this
          · exact List.mem_append_left _ hz
        · exact List.mem_append_right _ hz
theorem pe_fold {o b : Int} : ∀ (rest : List Lock) (s : Locks) (g : List Int), PE (rest.foldl dropStep (s, g)).1.held (rest.foldl dropStep (s, g)).1.queue o b → PE s.held (s.queue ++ rest) o b
  | [], s, g, h => by simpa using h
  | x :: rest, s, g, h => by
    rw [List.foldl_cons, show dropStep (s, g) x = (push s x, (dropStep (s, g) x).2) from by rw [drop_push]] at h
    exact pe_push (pe_fold rest _ _ h)
theorem filter_parts {α : Type} (p : α → Bool) : ∀ (l pre : List α) (y : α) (post : List α), l.filter p = pre ++ y :: post → ∃ pre' post', l = pre' ++ y :: post' ∧ ∀ z ∈ pre, z ∈ pre'
  | [], pre, y, post, h => by simp at h
  | x :: l, pre, y, post, h => by
    cases hx : p x with
    | false =>
      rw [List.filter_cons, hx] at h
      obtain ⟨pre', post', h1, h2⟩ := filter_parts p l pre y post (by simpa using h)
      exact ⟨x :: pre', post', by rw [h1]; rfl, fun z hz => List.mem_cons_of_mem _ (h2 z hz)⟩
    | true =>
      rw [List.filter_cons, hx] at h
      cases pre with
      | nil => simp at h; obtain ⟨rfl, _⟩ := h; exact ⟨[], l, rfl, fun z hz => by cases hz⟩
      | cons u pre =>
        simp at h
        obtain ⟨rfl, h⟩ := h
        obtain ⟨pre', post', h1, h2⟩ := filter_parts p l pre y post h
        refine ⟨x :: pre', post', by rw [h1]; rfl, fun z hz => ?_⟩
        rcases List.mem_cons.1 hz with rfl | hz
        · exact List.mem_cons_self ..
        · exact List.mem_cons_of_mem _ (h2 z hz)
theorem drop_edges (l : Locks) (o : Int) : ∀ e ∈ edgesL (lDrop l o).1, e ∈ edgesL l := by
  rintro ⟨a, b⟩ he
  unfold lDrop at he
  split at he
  · exact he
  · next hn =>
    have hok : Ok l := by
      rw [← check_iff]
      cases hc : lCheck l with
      | true => rfl
      | false => rw [hc] at hn; simp at hn
    obtain ⟨h1, h2, h3⟩ := (edge_iff _ a b).1 he
    refine (edge_iff l a b).2 ⟨h1, hok, ?_⟩
    obtain ⟨pre, y, post, hq, ho, z, hz, hc, hb⟩ := pe_fold _ _ _ h3
    dsimp only at hq hz
    rw [List.nil_append] at hq
    unfold rid at hq
    obtain ⟨pre', post', h4, h5⟩ := filter_parts _ _ _ _ _ hq
    refine ⟨pre', y, post', h4, ho, z, ?_, hc, hb⟩
    rcases List.mem_append.1 hz with hz | hz
    · exact List.mem_append_left _ (rid_mem hz).1
    · exact List.mem_append_right _ (h5 z hz)
theorem stuck_drop (l : Locks) (o : Int) : ∀ x ∈ stuckM (waysM (edgesL (lDrop l o).1)), x ∈ stuckM (waysM (edgesL l)) := stuck_mono fun i j _ _ h => drop_edges l o _ h
/-- Who is stuck waits. -/
theorem stuck_waits {l : Locks} {x : Int} (h : x ∈ stuckM (waysM (edgesL l))) : lWaits l x = true := by
  obtain ⟨i, hi, rfl, hw⟩ := (stuck_mem _ _).1 h
  obtain ⟨n, W⟩ := (ways_iff _ hi hi).1 hw
  have : ∃ k, k < 4 ∧ edgesM (edgesL l) i k = true := by
    cases W with
    | one _ hj ha => exact ⟨_, hj, ha⟩
    | step _ hk ha _ => exact ⟨_, hk, ha⟩
  obtain ⟨k, hk, ha⟩ := this
  obtain ⟨_, hok, pre, y, post, hq, ho, _⟩ := (edge_iff l i k).1 ((edgesM_iff _ hi hk).1 ha)
  exact (waits_iff l i).2 ⟨hok, y, by rw [hq]; simp, ho⟩
/-- two ascending lists, the second one's members among the first one's: they are met one behind the other -/
theorem sub_step {a b : List Int} (ha : Asc a) (hb : Asc b) {i k : Nat} {x y : Int} (hx : a[i]? = some x) (hy : b[k]? = some y) (h : ∀ z ∈ b.drop k, z ∈ a.drop i) :
    if x = y then ∀ z ∈ b.drop (k + 1), z ∈ a.drop (i + 1) else ∀ z ∈ b.drop k, z ∈ a.drop (i + 1) := by
  have hi := (List.getElem?_eq_some_iff.1 hx).1
  have hk := (List.getElem?_eq_some_iff.1 hy).1
  have ea : a.drop i = x :: a.drop (i + 1) := by rw [List.drop_eq_getElem_cons hi, (List.getElem?_eq_some_iff.1 hx).2]
  have eb : b.drop k = y :: b.drop (k + 1) := by rw [List.drop_eq_getElem_cons hk, (List.getElem?_eq_some_iff.1 hy).2]
  have pa : (a.drop i).Pairwise (· < ·) := List.Pairwise.drop ha
  have pb : (b.drop k).Pairwise (· < ·) := List.Pairwise.drop hb
  rw [ea] at pa h
  rw [eb] at pb h
  rw [List.pairwise_cons] at pa pb
  split
  · next hxy =>
    intro z hz
    rcases List.mem_cons.1 (h z (List.mem_cons_of_mem _ hz)) with rfl | hz'
    · have := pb.1 _ hz; omega
    · exact hz'
  · next hxy =>
    rw [eb]
    have hyin : y ∈ a.drop (i + 1) := by
      rcases List.mem_cons.1 (h y (List.mem_cons_self ..)) with h1 | h1
      · exact absurd h1.symm hxy
      · exact h1
    intro z hz
    rcases List.mem_cons.1 hz with rfl | hz
    · exact hyin
    · rcases List.mem_cons.1 (h z (List.mem_cons_of_mem _ hz)) with rfl | hz'
      · have h1 := pb.1 _ hz
        have h2 := pa.1 _ hyin
        omega
      · exact hz'
end Go.Proofs.Ve

/- WaitLess: its body tells true. -/
set_option maxRecDepth 100000
set_option maxHeartbeats 4000000
set_option linter.all false
namespace Go.Proofs.Ve
open Go
theorem no_long : ∀ {l : List Lock}, noLong l = true → smallL l
  | [], _ => fun x hx => by cases hx
  | y :: l, h => by
    rw [noLong] at h
    cases hy : lLong y with
    | true => rw [hy] at h; cases h
    | false =>
      rw [hy] at h
      intro x hx
      rcases List.mem_cons.1 hx with rfl | hx
      · unfold lLong at hy
        simp at hy
        exact ⟨by omega, by omega⟩
      · exact no_long h x hx
theorem few_small {l : Locks} (h : few l = true) : smallLs l := by
  have ⟨h1, h2⟩ := few_le h
  unfold few at h
  split at h
  · cases h
  · cases hn : noLong l.held with
    | false => rw [hn] at h; cases h
    | true => rw [hn] at h; exact ⟨by omega, by omega, no_long hn, no_long h⟩
theorem drop_len (l : Locks) (o : Int) : (lDrop l o).1.held.length ≤ l.held.length + l.queue.length ∧ (lDrop l o).1.queue.length ≤ l.held.length + l.queue.length := by
  unfold lDrop
  split
  · dsimp only; omega
  · unfold dropAll
    have h := fold_len (⟨rid o l.held, []⟩, []) (rid o l.queue)
    have h1 := rid_len o l.held
    have h2 := rid_len o l.queue
    dsimp only [List.length_nil] at h ⊢
    omega
theorem c9 (l : Locks) (o : Int) (H : List (List Blk)) : CallEq X H 9 [pLocks l, .d (.int .i64 o)] (.d (.bool true)) [] := by
  cases hf : few l with
  | false =>
    have hw := fun H => hf ▸ c14 l H
    refine callEq_of_body X_ok rfl Try.func9 rfl ?_
    conv => whnf
    repeat' (first
      | (refine And.intro (fun h_ => ?_) (fun h_ => ?_) <;> (conv => whnf))
      | (refine ⟨_, _, c28 _, (by first | exact True.intro | exact And.intro rfl flat_nil), ?_⟩; conv => whnf)
      | (refine ⟨_, _, hw _, (by first | exact True.intro | exact And.intro rfl flat_nil), ?_⟩; conv => whnf)
      | (intro z_ hz_; conv => whnf)
      | (refine ⟨[], rfl, ?_, True.intro⟩; (conv => whnf); (first | done | ((first | exact rfl | (exfalso; simp at h_; done)); done)))
      | fail)
    all_goals simp_all
  | true =>
    have f1 : ∀ H, CallEq X H 14 [pLocks l] (.d (.bool true)) [] := fun H => hf ▸ c14 l H
    have ⟨hl1, hl2⟩ := few_le hf
    have hlen := edgesL_len l
    have hlen2 := edgesL_len (lDrop l o).1
    have ⟨hd1, hd2⟩ := drop_len l o
    have e1 := fun H => c33 l (by omega) (by omega) H
    have d1 := fun H => c25 l o (few_small hf) H
    have e2 := fun H => c33 (lDrop l o).1 (by omega) (by omega) H
    have s1 := fun H => c35 (edgesL l) (by omega) H
    have s2 := fun H => c35 (edgesL (lDrop l o).1) (by omega) H
    have hsub := stuck_drop l o
    have a1 : Asc (stuckM (waysM (edgesL l))) := bitsL_asc _ _
    have a2 : Asc (stuckM (waysM (edgesL (lDrop l o).1))) := bitsL_asc _ _
    have hl1 : (stuckM (waysM (edgesL l))).length ≤ 4 := bitsL_len _ _
    have hl2 : (stuckM (waysM (edgesL (lDrop l o).1))).length ≤ 4 := bitsL_len _ _
    unfold pDropF at d1
    generalize edgesL l = E1 at e1 s1 hsub a1 hl1
    generalize edgesL (lDrop l o).1 = E2 at e2 s2 hsub a2 hl2
    generalize stuckM (waysM E1) = S1 at s1 hsub a1 hl1
    generalize stuckM (waysM E2) = S2 at s2 hsub a2 hl2
    generalize (lDrop l o).1 = L2 at e2 d1
    generalize (lDrop l o).2 = G2 at d1
    refine callEq_of_body X_ok rfl Try.func9 rfl ?_
    conv => whnf
    refine ⟨_, _, c28 _, True.intro, ?_⟩
    conv => whnf
    refine ⟨_, _, f1 _, True.intro, ?_⟩
    conv => whnf
    refine And.intro (fun h => absurd h (by decide)) (fun _ => ?_)
    conv => whnf
    refine ⟨_, _, e1 _, True.intro, ?_⟩
    conv => whnf
    refine ⟨_, _, s1 _, True.intro, ?_⟩
    conv => whnf
    refine ⟨_, _, d1 _, True.intro, ?_⟩
    conv => whnf
    refine ⟨_, _, e2 _, True.intro, ?_⟩
    conv => whnf
    refine ⟨_, _, s2 _, True.intro, ?_⟩
    conv => whnf
    refine loopV_of (fun s' : Nat × Nat => ⟨[.any, .any, .any, .any, .any, .d (.bool true), .d (encI S1), .any, .any, .d (encI S2), .d (.int .i64 s'.2), .d (.int .i64 s'.1), .any, .any, .any, .any, .any, .any, .any, .any, .any, .any, .any, .any, .any, .any, .any, .any, .any, .any, .any, .any, .any, .any, .any, .any, .any, .any, .any, .any, .any, .any, .any, .any, .any, .any, .any, .any, .any, .any, .any, .any, .any, .any, .any, .any, .any, .any, .any], []⟩)
      (fun s' => s'.1 ≤ S1.length ∧ s'.2 ≤ S2.length ∧ ∀ z ∈ S2.drop s'.2, z ∈ S1.drop s'.1) (fun s' => S1.length - s'.1) (0, 0) [] ⟨Nat.zero_le _, Nat.zero_le _, hsub⟩ ?_ ?_
    · refine And.intro rfl (And.intro ?_ ?_)
      all_goals (repeat' (first | exact True.intro | exact rfl | refine And.intro ?_ ?_))
    · rintro ⟨i, k⟩ ⟨hi, hk, hz⟩
      dsimp only at hi hk hz
      have fin : ¬ (i < S1.length ∧ k < S2.length) → k = S2.length := fun h => by
        rcases Nat.lt_or_ge k S2.length with h1 | h1
        · exfalso
          have h2 : S1.length ≤ i := by omega
          rw [List.drop_eq_nil_of_le h2] at hz
          have := hz _ (List.getElem_mem (l := S2.drop k) (n := 0) (by simp; omega))
          cases this
        · omega
      have done : k = S2.length → ((k : Int) == ((S2.map fun x => [DV.int .i64 x]).length : Int)) = true := fun h => by simp [h]
      conv => whnf
      refine And.intro (fun h1 => ?_) (fun h1 => ?_)
      · conv => whnf
        refine And.intro (fun h2 => ?_) (fun h2 => ?_)
        · conv => whnf
          have hi' : i < S1.length := by simp at h1; omega
          have hk' : k < S2.length := by simp at h2; omega
          obtain ⟨x, hx⟩ : ∃ x, S1[i]? = some x := ⟨_, List.getElem?_eq_getElem hi'⟩
          obtain ⟨y, hy⟩ : ∃ y, S2[k]? = some y := ⟨_, List.getElem?_eq_getElem hk'⟩
          have fx : (S1.map fun x => [DV.int .i64 x])[i]? = some [.int .i64 x] := by simp [hx]
          have fy : (S2.map fun x => [DV.int .i64 x])[k]? = some [.int .i64 y] := by simp [hy]
          have st := sub_step a1 a2 hx hy hz
          refine ⟨by omega, _, fx, rfl, ?_⟩
          conv => whnf
          refine ⟨by omega, _, fy, rfl, ?_⟩
          conv => whnf
          refine And.intro (fun q => ?_) (fun q => ?_)
          · conv => whnf
            have he : x = y := by simpa using q
            rw [if_pos he] at st
            intro z hz'
            conv => whnf
            rw [wrap_small (by omega) (by omega)] at hz'
            subst hz'
            intro z hz'
            conv => whnf
            rw [wrap_small (by omega) (by omega)] at hz'
            subst hz'
            refine ⟨(i + 1, k + 1), [], ⟨by show i + 1 ≤ _; omega, by show k + 1 ≤ _; omega, st⟩, by show S1.length - (i + 1) < S1.length - i; omega, And.intro rfl (And.intro ?_ ?_)⟩
            all_goals (repeat' (first | exact True.intro | exact rfl | refine And.intro ?_ ?_))
          · conv => whnf
            have he : x ≠ y := by simpa using q
            rw [if_neg he] at st
            intro z hz'
            conv => whnf
            rw [wrap_small (by omega) (by omega)] at hz'
            subst hz'
            refine ⟨(i + 1, k), [], ⟨by show i + 1 ≤ _; omega, hk, st⟩, by show S1.length - (i + 1) < S1.length - i; omega, And.intro rfl (And.intro ?_ ?_)⟩
            all_goals (repeat' (first | exact True.intro | exact rfl | refine And.intro ?_ ?_))
        · conv => whnf
          have hd := done (fin (by simp at h2; omega))
          refine And.intro (fun _ => ?_) (fun h => absurd h (by decide))
          conv => whnf
          exact ⟨[], rfl, congrArg DV.bool hd, True.intro⟩
      · conv => whnf
        have hd := done (fin (by simp at h1; omega))
        refine And.intro (fun _ => ?_) (fun h => absurd h (by decide))
        conv => whnf
        exact ⟨[], rfl, congrArg DV.bool hd, True.intro⟩
end Go.Proofs.Ve

/- Plain laws of waiting: who goes, and that nobody is left. -/
set_option maxRecDepth 100000
set_option linter.all false
namespace Go.Proofs.Ve
open Go
theorem max_mem (s : Nat → Int) : ∀ (xs : List Int) (b : Int), maxF s b xs ∈ b :: xs
  | [], b => by simp [maxF]
  | x :: xs, b => by
    rw [maxF]
    cases h : decide (yngr s x b > 0) with
    | true => exact List.mem_cons_of_mem _ (max_mem s xs x)
    | false =>
      rcases List.mem_cons.1 (max_mem s xs b) with h1 | h1
      · rw [cond_false, h1]; exact List.mem_cons_self ..
      · exact List.mem_cons_of_mem _ (List.mem_cons_of_mem _ h1)
theorem yngr_pos {s : Nat → Int} {x y : Int} (h : yngr s x y > 0) : s y.toNat ≤ s x.toNat := by
  unfold yngr at h
  by_cases h1 : s x.toNat < s y.toNat
  · rw [if_pos (by simpa using h1)] at h; omega
  · omega
theorem yngr_neg {s : Nat → Int} {x y : Int} (h : ¬ yngr s x y > 0) : s x.toNat ≤ s y.toNat := by
  unfold yngr at h
  by_cases h1 : s x.toNat < s y.toNat
  · omega
  · rw [if_neg (by simpa using h1)] at h
    by_cases h2 : s x.toNat > s y.toNat
    · rw [if_pos (by simpa using h2)] at h; omega
    · omega
theorem max_le (s : Nat → Int) : ∀ (xs : List Int) (b : Int), ∀ x ∈ b :: xs, s x.toNat ≤ s (maxF s b xs).toNat
  | [], b, x, hx => by simp at hx; subst hx; exact Int.le_refl _
  | y :: xs, b, x, hx => by
    rw [maxF]
    cases h : decide (yngr s y b > 0) with
    | true =>
      have hp := yngr_pos (of_decide_eq_true h)
      have hy := max_le s xs y
      rcases List.mem_cons.1 hx with rfl | hx
      · exact Int.le_trans hp (hy y (List.mem_cons_self ..))
      · exact hy x hx
    | false =>
      have hn := yngr_neg (of_decide_eq_false h)
      have hb := max_le s xs b
      rcases List.mem_cons.1 hx with rfl | hx
      · exact hb _ (List.mem_cons_self ..)
      · rcases List.mem_cons.1 hx with rfl | hx
        · exact Int.le_trans hn (hb b (List.mem_cons_self ..))
        · exact hb x (List.mem_cons_of_mem _ hx)
/-- who has gone -/
def cntG (g : Nat → Bool) : Nat := (g 0).toNat + (g 1).toNat + (g 2).toNat + (g 3).toNat
def Gone (l : Locks) (g : Nat → Bool) : Prop := ∀ x : Nat, x < 4 → g x = true → ∀ y ∈ l.held ++ l.queue, y.owner ≠ (x : Int)
theorem cntG_set {g : Nat → Bool} {v : Nat} (hv : v < 4) (h : g v = false) : cntG (fun i => bif Nat.beq i v then true else g i) = cntG g + 1 := by
  unfold cntG
  match v, hv with
  | 0, _ => show 1 + (g 1).toNat + (g 2).toNat + (g 3).toNat = _; rw [h]; simp; omega
  | 1, _ => show (g 0).toNat + 1 + (g 2).toNat + (g 3).toNat = _; rw [h]; simp; omega
  | 2, _ => show (g 0).toNat + (g 1).toNat + 1 + (g 3).toNat = _; rw [h]; simp; omega
  | 3, _ => show (g 0).toNat + (g 1).toNat + (g 2).toNat + 1 = _; rw [h]; simp
theorem cntG_all {g : Nat → Bool} (h : cntG g = 4) : ∀ x, x < 4 → g x = true := by
  unfold cntG at h
  have h0 : (g 0).toNat ≤ 1 := by cases g 0 <;> simp
  have h1 : (g 1).toNat ≤ 1 := by cases g 1 <;> simp
  have h2 : (g 2).toNat ≤ 1 := by cases g 2 <;> simp
  have h3 : (g 3).toNat ≤ 1 := by cases g 3 <;> simp
  intro x hx
  have one : ∀ b : Bool, b.toNat = 1 → b = true := fun b hb => by cases b <;> simp at hb; rfl
  match x, hx with
  | 0, _ => exact one _ (by omega)
  | 1, _ => exact one _ (by omega)
  | 2, _ => exact one _ (by omega)
  | 3, _ => exact one _ (by omega)
theorem gone_step {l : Locks} (hok : Ok l) {g : Nat → Bool} (h : Gone l g) {v : Nat} (hv : v < 4) : Ok (lDrop l v).1 ∧ Gone (lDrop l v).1 (fun i => bif Nat.beq i v then true else g i) := by
  obtain ⟨h1, h2⟩ := drop_ok hok (v : Int)
  refine ⟨h1, fun x hx hg y hy => ?_⟩
  obtain ⟨m, n⟩ := h2 y hy
  cases hb : Nat.beq x v with
  | true => rw [Nat.eq_of_beq_eq_true hb]; exact n ⟨by omega, by omega⟩
  | false => dsimp only at hg; rw [hb] at hg; exact h x hx hg y m
theorem stuck_not_gone {l : Locks} {g : Nat → Bool} (h : Gone l g) {v : Nat} (hv : v < 4) (hs : (v : Int) ∈ stuckM (waysM (edgesL l))) : Ok l ∧ g v = false := by
  obtain ⟨hok, y, hy, ho⟩ := (waits_iff l v).1 (stuck_waits hs)
  refine ⟨hok, ?_⟩
  cases hg : g v with
  | false => rfl
  | true => exact absurd ho (h v hv hg y (List.mem_append_right _ hy))
theorem gone_stuck {l : Locks} {g : Nat → Bool} (h : Gone l g) (hc : cntG g = 4) : stuckM (waysM (edgesL l)) = [] := by
  refine List.eq_nil_iff_forall_not_mem.2 fun x hx => ?_
  obtain ⟨i, hi, rfl, _⟩ := (stuck_mem _ _).1 hx
  have := (stuck_not_gone h hi hx).2
  rw [cntG_all hc i hi] at this; cases this
end Go.Proofs.Ve

/- WaitBreaks: its body tells true. -/
set_option maxRecDepth 100000
set_option maxHeartbeats 8000000
set_option linter.all false
namespace Go.Proofs.Ve
open Go
def bSt (s : Nat → Int) : Blk := .box [.d (.int .i64 (s 0)), .d (.int .i64 (s 1)), .d (.int .i64 (s 2)), .d (.int .i64 (s 3))]
theorem c8 (l : Locks) (s : Nat → Int) (H : List (List Blk)) : CallEq X H 8 [pLocks l, pSt s] (.d (.bool true)) [] := by
  cases hf : few l with
  | false =>
    have hw := fun H => hf ▸ c14 l H
    refine callEq_of_body X_ok rfl Try.func8 rfl ?_
    conv => whnf
    repeat' (first
      | (refine And.intro (fun h_ => ?_) (fun h_ => ?_) <;> (conv => whnf))
      | (refine ⟨_, _, c28 _, (by first | exact True.intro | exact And.intro rfl flat_nil), ?_⟩; conv => whnf)
      | (refine ⟨_, _, hw _, (by first | exact True.intro | exact And.intro rfl flat_nil), ?_⟩; conv => whnf)
      | (intro z_ hz_; conv => whnf)
      | (refine ⟨[], rfl, ?_, True.intro⟩; (conv => whnf); (first | done | ((first | exact rfl | (exfalso; simp at h_; done)); done)))
      | fail)
    all_goals simp_all
  | true =>
    have f1 : ∀ H, CallEq X H 14 [pLocks l] (.d (.bool true)) [] := fun H => hf ▸ c14 l H
    have hs0 := few_small hf
    refine callEq_of_body X_ok rfl Try.func8 rfl ?_
    conv => whnf
    refine ⟨_, _, c28 _, True.intro, ?_⟩
    conv => whnf
    refine ⟨_, _, f1 _, True.intro, ?_⟩
    conv => whnf
    refine And.intro (fun h => absurd h (by decide)) (fun _ => ?_)
    conv => whnf
    refine loopV_of (fun i : Nat × Locks × (Nat → Bool) => ⟨[.any, .any, .ptr 0 0 0, .ptr 0 1 0, .any, .d (.bool true), .d (.int .i64 i.1), .any, .any, .any, .any, .any, .any, .any, .any, .any, .any, .any, .any, .any, .any, .any, .any, .any, .any, .any, .any, .any, .any, .any, .any, .any, .any, .any, .any, .any, .any, .any, .any, .any, .any, .any, .any, .any, .any, .any, .any, .any, .any, .any, .any, .any, .any, .any, .any, .any, .any, .any, .any, .any, .any, .any, .any, .any, .any, .any, .any, .any, .any, .any, .any, .any, .any, .any, .any, .any, .any, .any, .any, .any, .any, .any, .any, .any, .any, .any, .any, .any, .any, .any, .any, .any, .any, .any, .any, .any, .any, .any, .any, .any, .any, .any, .any, .any, .any, .any, .any, .any, .any, .any, .any, .any, .any, .any, .any], [bLocks i.2.1, bSt s]⟩)
      (fun i => i.1 ≤ 4 ∧ smallLs i.2.1 ∧ cntG i.2.2 = i.1 ∧ Gone i.2.1 i.2.2) (fun i => 4 - i.1) (0, l, fun _ => false) [0, 1] ⟨Nat.zero_le _, hs0, rfl, fun x hx hg => by cases hg⟩ ?_ ?_
    · refine And.intro rfl (And.intro ?_ ?_)
      all_goals (repeat' (first | exact True.intro | exact rfl | refine And.intro ?_ ?_))
    · rintro ⟨i, l, g⟩ ⟨hi, hs, hc, hG⟩
      dsimp only at hi hs hc hG
      clear hf f1 hs0
      have hlen := edgesL_len l
      have e1 := fun H => c33 l hs.1 hs.2.1 H
      have s1 := fun H => c35 (edgesL l) (by omega) H
      conv => whnf
      refine And.intro (fun h1 => ?_) (fun h1 => ?_)
      · conv => whnf
        have hi' : i < 4 := by simp at h1; omega
        have v1 := fun H => c30 (edgesL l) s (by omega) H
        have hin := stuck_in4 (waysM (edgesL l))
        have hlS : (stuckM (waysM (edgesL l))).length ≤ 4 := bitsL_len _ _
        have hwait : ∀ x ∈ stuckM (waysM (edgesL l)), lWaits l x = true := fun x hx => stuck_waits hx
        have hng : ∀ v : Nat, v < 4 → (v : Int) ∈ stuckM (waysM (edgesL l)) → Ok l ∧ g v = false := fun v hv h => stuck_not_gone hG hv h
        generalize stuckM (waysM (edgesL l)) = S at s1 v1 hin hlS hwait hng
        cases S with
        | nil =>
          have v1 : ∀ H, CallEq X H 30 [.d (encE (edgesL l)), pSt s] (.tuple [.d (.int .i64 0), .d (.bool false)]) [] := v1
          refine ⟨_, _, e1 _, True.intro, ?_⟩
          conv => whnf
          refine ⟨_, _, s1 _, True.intro, ?_⟩
          conv => whnf
          refine ⟨_, _, v1 _, True.intro, ?_⟩
          conv => whnf
          refine And.intro (fun h => absurd h (by decide)) (fun _ => ?_)
          conv => whnf
          refine And.intro (fun _ => ?_) (fun h => absurd h (by decide))
          conv => whnf
          exact ⟨[], rfl, rfl, True.intro⟩
        | cons b S =>
          have v1 : ∀ H, CallEq X H 30 [.d (encE (edgesL l)), pSt s] (.tuple [.d (.int .i64 (maxF s b S)), .d (.bool true)]) [] := v1
          have hvm := max_mem s S b
          have hmax := max_le s S b
          generalize maxF s b S = v at v1 hvm hmax
          have hS0 : decide (((((b :: S).map fun x => [DV.int .i64 x]).length : Nat) : Int) > 0) = true   := by simp
          generalize b :: S = S at s1 v1 hvm hmax hin hlS hwait hng hS0
          refine ⟨_, _, e1 _, True.intro, ?_⟩
          conv => whnf
          refine ⟨_, _, s1 _, True.intro, ?_⟩
          conv => whnf
          refine ⟨_, _, v1 _, True.intro, ?_⟩
          conv => whnf
          refine And.intro (fun h => absurd h (by rw [hS0]; decide)) (fun _ => ?_)
          conv => whnf
          refine And.intro (fun h => absurd h (by decide)) (fun _ => ?_)
          conv => whnf
          refine loopV_of (fun i' : Nat × Bool => ⟨[.any, .any, .ptr 0 0 0, .ptr 0 1 0, .any, .d (.bool true), .d (.int .i64 i), .any, .d (encI S), .d (.int .i64 v), .any, .d (.bool i'.2), .d (.int .i64 i'.1), .any, .any, .any, .any, .any, .any, .any, .any, .any, .any, .any, .any, .any, .any, .any, .any, .any, .any, .any, .any, .any, .any, .any, .any, .any, .any, .any, .any, .any, .any, .any, .any, .any, .any, .any, .any, .any, .any, .any, .any, .any, .any, .any, .any, .any, .any, .any, .any, .any, .any, .any, .any, .any, .any, .any, .any, .any, .any, .any, .any, .any, .any, .any, .any, .any, .any, .any, .any, .any, .any, .any, .any, .any, .any, .any, .any, .any, .any, .any, .any, .any, .any, .any, .any, .any, .any, .any, .any, .any, .any, .any, .any, .any, .any, .any, .any, .any, .any, .any, .any, .any, .any], [bLocks l, bSt s]⟩)
            (fun i' => i'.1 ≤ S.length ∧ (v ∈ S.take i'.1 → i'.2 = true)) (fun i' => S.length - i'.1) (0, false) [0, 1] ⟨Nat.zero_le _, fun h => by simp at h⟩ ?_ ?_
          · refine And.intro rfl (And.intro ?_ ?_)
            all_goals (repeat' (first | exact True.intro | exact rfl | refine And.intro ?_ ?_))
          · rintro ⟨k, c⟩ ⟨hk, hc2⟩
            dsimp only at hk hc2
            conv => whnf
            refine And.intro (fun h2 => ?_) (fun h2 => ?_)
            · conv => whnf
              have hk' : k < S.length := by simp at h2; omega
              obtain ⟨x, hx⟩ : ∃ x, S[k]? = some x := ⟨_, List.getElem?_eq_getElem hk'⟩
              have fx : (S.map fun x => [DV.int .i64 x])[k]? = some [.int .i64 x] := by simp [hx]
              have hxm := List.mem_of_getElem? hx
              have hxi : in4 x := hin x hxm
              have hvi : in4 v := hin v hvm
              have hxs : decide (s x.toNat > s v.toNat) = false := by have := hmax x hxm; simp; omega
              have hw : ∀ H, CallEq X H 23 [pLocks l, .d (.int .i64 x)] (.d (.bool true)) [] := fun H => hwait x hxm ▸ c23 l x hs.1 hs.2.1 H
              have n1 : v ∈ S.take (k + 1) → c = false → (x == v) = true := fun h hcf => by
                rw [take_snoc' hx, List.mem_append] at h
                rcases h with h | h
                · rw [hc2 h] at hcf; cases hcf
                · simp at h; simp [h]
              clear hx hxm
              refine ⟨by omega, _, fx, rfl, ?_⟩
              conv => whnf
              rcases hxi with rfl | rfl | rfl | rfl <;> rcases hvi with rfl | rfl | rfl | rfl
              all_goals
                refine And.intro (fun _ => ?_) (fun q => absurd q (by decide))
                conv => whnf
                refine ⟨by omega, _, fx, rfl, ?_⟩
                conv => whnf
                refine And.intro (fun _ => ?_) (fun q => absurd q (by decide))
                conv => whnf
                refine And.intro (fun _ => ?_) (fun q => absurd q (by decide))
                conv => whnf
                refine And.intro (fun _ => ?_) (fun q => absurd q (by decide))
                conv => whnf
                refine ⟨by omega, _, fx, rfl, ?_⟩
                conv => whnf
                refine ⟨by decide, by decide, _, rfl, ?_⟩
                conv => whnf
                refine ⟨by decide, by decide, _, rfl, ?_⟩
                conv => whnf
                refine And.intro (fun _ => ?_) (fun q => absurd (q.symm.trans hxs) (by decide))
                conv => whnf
                refine ⟨by omega, _, fx, rfl, ?_⟩
                conv => whnf
                refine ⟨_, _, hw _, True.intro, ?_⟩
                conv => whnf
                refine And.intro (fun q => absurd q (by decide)) (fun _ => ?_)
                conv => whnf
                refine And.intro (fun q => ?_) (fun q => ?_)
                · conv => whnf
                  refine ⟨by omega, _, fx, rfl, ?_⟩
                  conv => whnf
                  intro z hz
                  conv => whnf
                  rw [wrap_small (by (first | omega | (dsimp only; omega) | (simp; done) | (simp; omega))) (by (first | omega | (dsimp only; omega) | (simp; done) | (simp; omega)))] at hz
                  subst hz
                  refine ⟨(k + 1, _), [0, 1], ⟨by show k + 1 ≤ S.length; omega, fun h => n1 h q⟩, by show S.length - (k + 1) < S.length - k; omega, And.intro rfl (And.intro ?_ ?_)⟩
                  all_goals (repeat' (first | exact True.intro | exact rfl | refine And.intro ?_ ?_))
                · conv => whnf
                  intro z hz
                  conv => whnf
                  rw [wrap_small (by (first | omega | (dsimp only; omega) | (simp; done) | (simp; omega))) (by (first | omega | (dsimp only; omega) | (simp; done) | (simp; omega)))] at hz
                  subst hz
                  refine ⟨(k + 1, true), [0, 1], ⟨by show k + 1 ≤ S.length; omega, fun _ => rfl⟩, by show S.length - (k + 1) < S.length - k; omega, And.intro rfl (And.intro ?_ ?_)⟩
                  all_goals (repeat' (first | exact True.intro | exact rfl | refine And.intro ?_ ?_))
            · conv => whnf
              have hk' : k = S.length := by simp at h2; omega
              subst hk'
              rw [List.take_length] at hc2
              have hct := hc2 hvm
              subst hct
              refine And.intro (fun h => absurd (show (!true) = true from h) (by decide)) (fun _ => ?_)
              conv => whnf
              obtain ⟨n, hn, rfl⟩ : ∃ n : Nat, n < 4 ∧ v = n := ⟨v.toNat, by have := hin v hvm; unfold in4 at this; omega, by have := hin v hvm; unfold in4 at this; omega⟩
              obtain ⟨hok, hgn⟩ := hng n hn hvm
              obtain ⟨ok2, g2⟩ := gone_step hok hG hn
              have d1 := fun H => c25 l (n : Int) hs H
              have hcs := cntG_set hn hgn
              have sm := ok_small ok2
              unfold pDropF at d1
              generalize (lDrop l (n : Int)).1 = L2 at d1 ok2 g2 sm
              generalize (lDrop l (n : Int)).2 = G2 at d1
              refine ⟨_, _, d1 _, True.intro, ?_⟩
              conv => whnf
              intro z hz
              conv => whnf
              rw [wrap_small (by omega) (by omega)] at hz
              subst hz
              refine ⟨(i + 1, L2, _), [0, 1], ⟨by show i + 1 ≤ 4; omega, sm, by show cntG _ = i + 1; rw [← hc]; exact hcs, g2⟩, by show 4 - (i + 1) < 4 - i; omega, And.intro rfl (And.intro ?_ ?_)⟩
              all_goals (repeat' (first | exact True.intro | exact rfl | refine And.intro ?_ ?_))
      · conv => whnf
        have hi' : i = 4 := by simp at h1; omega
        have hnil := gone_stuck hG (by omega)
        rw [hnil] at s1
        refine And.intro (fun _ => ?_) (fun h => absurd h (by decide))
        conv => whnf
        refine ⟨_, _, e1 _, True.intro, ?_⟩
        conv => whnf
        refine ⟨_, _, s1 _, True.intro, ?_⟩
        conv => whnf
        exact ⟨[], rfl, rfl, True.intro⟩
end Go.Proofs.Ve

/- Break. -/
set_option maxRecDepth 100000
set_option maxHeartbeats 4000000
set_option linter.all false
namespace Go.Proofs.Ve
open Go
noncomputable def brk (s : Nat → Int) : Nat → Locks → List Int → Locks × List Int
  | 0, l, g => (l, g)
  | n + 1, l, g => match stuckM (waysM (edgesL l)) with | [] => (l, g) | b :: S => brk s n (lDrop l (maxF s b S)).1 (g ++ [maxF s b S])
theorem own_eq (l : Locks) : (lDrop l (-1)).1 = l := by
  unfold lDrop
  have : (decide ((-1 : Int) < 0)) = true := rfl
  rw [this, Bool.true_or, Bool.or_true, if_pos rfl]
theorem rowI_snoc (l : List Int) (x : Int) : rowI (l ++ [x]) = rowI l ++ [[.int .i64 x]] := by simp [rowI]
theorem c42r (l : Locks) (s : Nat → Int) (hs0 : smallLs l) (H : List (List Blk)) : CallEq X H 42 [pLocks l, pSt s] (.tuple [pLocks (brk s 4 l []).1, .row 0 0 (brk s 4 l []).2.length]) [⟨3, 1, rowI (brk s 4 l []).2⟩] := by
  have h77 := c77 l hs0
  rw [own_eq] at h77
  generalize hR : brk s 4 l [] = R
  refine callEq_of_body X_ok rfl Try.func42 rfl ?_
  conv => whnf
  refine ⟨_, _, h77 _, True.intro, ?_⟩
  conv => whnf
  refine loopV_of (fun i : Nat × Locks × (Nat → Bool) × List Int => ⟨[.any, .any, .any, .ptr 0 0 0, .ptr 0 1 0, .row 0 2 i.2.2.2.length, .any, .any, .any, .any, .any, .any, .any, .any, .any, .any, .any, .any, .any, .any, .any, .any, .any, .any, .any, .any, .any, .any, .any, .any, .any], [bSt s, bLocks i.2.1, .row 3 1 (rowI i.2.2.2)]⟩)
    (fun i => i.1 ≤ 4 ∧ smallLs i.2.1 ∧ cntG i.2.2.1 = i.1 ∧ Gone i.2.1 i.2.2.1 ∧ i.2.2.2.length = i.1 ∧ brk s (4 - i.1) i.2.1 i.2.2.2 = R) (fun i => 4 - i.1) (0, l, (fun _ => false), []) [1, 2, 100] ⟨Nat.zero_le _, hs0, rfl, (fun x hx hg => by cases hg), rfl, hR⟩ ?_ ?_
  · refine And.intro rfl (And.intro ?_ ?_)
    all_goals (repeat' (first | exact True.intro | exact rfl | refine And.intro ?_ ?_))
  · rintro ⟨i, l, g, G⟩ ⟨hi, hs, hc, hG, hn, hB⟩
    dsimp only at hi hs hc hG hn hB
    clear h77 hs0 hR
    have hlen := edgesL_len l
    have e1 := fun H => c33 l hs.1 hs.2.1 H
    have v1 := fun H => c30 (edgesL l) s (by omega) H
    have hin := stuck_in4 (waysM (edgesL l))
    have hng : ∀ v : Nat, v < 4 → (v : Int) ∈ stuckM (waysM (edgesL l)) → Ok l ∧ g v = false := fun v hv h => stuck_not_gone hG hv h
    have h4 : i = 4 → stuckM (waysM (edgesL l)) = [] := fun h => gone_stuck hG (by omega)
    have hB1 : brk s (4 - i) l G = if i = 4 then (l, G) else match stuckM (waysM (edgesL l)) with | [] => (l, G) | b :: S => brk s (4 - (i + 1)) (lDrop l (maxF s b S)).1 (G ++ [maxF s b S]) := by
      split
      · rename_i h; subst h; rfl
      · rw [show 4 - i = (4 - (i + 1)) + 1 by omega]; rfl
    rw [hB1] at hB
    clear hB1
    generalize stuckM (waysM (edgesL l)) = S at v1 hin hng h4 hB
    conv => whnf
    refine ⟨_, _, e1 _, True.intro, ?_⟩
    conv => whnf
    cases S with
    | nil =>
      have v1 : ∀ H, CallEq X H 30 [.d (encE (edgesL l)), pSt s] (.tuple [.d (.int .i64 0), .d (.bool false)]) [] := v1
      obtain rfl : (l, G) = R := by rw [← hB]; split <;> rfl
      refine ⟨_, _, v1 _, True.intro, ?_⟩
      conv => whnf
      refine And.intro (fun _ => ?_) (fun q => absurd q (by decide))
      conv => whnf
      refine ⟨[2], rfl, ?_, ?_⟩
      all_goals (repeat' (first | exact True.intro | exact rfl | refine And.intro ?_ ?_))
    | cons b S =>
      have hi4 : i ≠ 4 := fun h => by cases h4 h
      have v1 : ∀ H, CallEq X H 30 [.d (encE (edgesL l)), pSt s] (.tuple [.d (.int .i64 (maxF s b S)), .d (.bool true)]) [] := v1
      have hvm := max_mem s S b
      rw [if_neg hi4] at hB
      dsimp only at hB
      generalize maxF s b S = v at v1 hvm hB
      obtain ⟨n, hn4, rfl⟩ : ∃ n : Nat, n < 4 ∧ v = n := ⟨v.toNat, by have := hin v hvm; unfold in4 at this; omega, by have := hin v hvm; unfold in4 at this; omega⟩
      obtain ⟨hok, hgn⟩ := hng n hn4 hvm
      obtain ⟨ok2, g2⟩ := gone_step hok hG hn4
      have d1 := fun H => c25 l (n : Int) hs H
      have hcs := cntG_set hn4 hgn
      have sm := ok_small ok2
      unfold pDropF at d1
      generalize (lDrop l (n : Int)).1 = L2 at d1 ok2 g2 sm hB
      generalize (lDrop l (n : Int)).2 = G2 at d1
      refine ⟨_, _, v1 _, True.intro, ?_⟩
      conv => whnf
      refine And.intro (fun q => absurd q (by decide)) (fun _ => ?_)
      conv => whnf
      refine ⟨_, _, d1 _, True.intro, ?_⟩
      conv => whnf
      refine ⟨fun y hy => by simp at hy; subst hy; rfl, ?_⟩
      conv => whnf
      refine ⟨(rowI_len _).symm, by (first | (simp; omega) | (first | omega | (dsimp only; omega) | (simp; done) | (simp; omega))), ?_⟩
      conv => whnf
      refine ⟨(i + 1, L2, _, G ++ [(n : Int)]), [0, 1, 3], ⟨by show i + 1 ≤ 4; omega, sm, by show cntG _ = i + 1; rw [← hc]; exact hcs, g2, by show (G ++ [(n : Int)]).length = i + 1; simp [hn], hB⟩, by show 4 - (i + 1) < 4 - i; omega, And.intro rfl (And.intro ?_ ?_)⟩
      all_goals (repeat' (first | exact True.intro | exact rfl | refine And.intro ?_ ?_))
      · show PV.row 0 3 (G.length + 1) = PV.row 0 3 (G ++ [(n : Int)]).length
        rw [List.length_append]; rfl
      · exact (rowI_snoc G (n : Int)).symm
theorem brk_len (s : Nat → Int) : ∀ (n : Nat) (l : Locks) (g : List Int), (brk s n l g).2.length ≤ g.length + n
  | 0, l, g => Nat.le_refl _
  | n + 1, l, g => by
    unfold brk
    cases stuckM (waysM (edgesL l)) with
    | nil => exact Nat.le_add_right _ _
    | cons b S => refine Nat.le_trans (brk_len s n _ _) ?_; simp; omega
def pBrk (r : Locks × List Int) : PV := .tuple [pLocks r.1, .d (encI r.2)]
theorem c42 (l : Locks) (s : Nat → Int) (hs : smallLs l) (H : List (List Blk)) : CallEq X H 42 [pLocks l, pSt s] (pBrk (brk s 4 l [])) [] :=
  (c42r l s hs H).freeze 3 (by
    change PV.tuple [pLocks (brk s 4 l []).1, PV.d (.sl ((rowI (brk s 4 l []).2).take (brk s 4 l []).2.length))] = _
    rw [List.take_of_length_le (by rw [rowI_len]; exact Nat.le_refl _)]; rfl)
end Go.Proofs.Ve

/- Free. -/
set_option maxRecDepth 100000
set_option maxHeartbeats 4000000
set_option linter.all false
namespace Go.Proofs.Ve
open Go
theorem c81 (x y : Lock) (T1 T2 : List Blk) (rest : List Blk) (H : List (List Blk)) : CallEq X (T1 :: T2 :: (bLock x :: rest) :: H) 81 [pLock y, .ptr 3 0 0] (.d (.bool (lClash y x))) [] := by
  refine callEq_of_body X_ok rfl Try.func81 rfl ?_
  conv => whnf
  repeat' (first
    | (refine And.intro (fun h_ => ?_) (fun h_ => ?_) <;> (conv => whnf))
    | (refine ⟨_, _, c21 y x _, (by first | exact True.intro | exact And.intro rfl flat_nil), ?_⟩; conv => whnf)
    | (intro z_ hz_; conv => whnf)
    | (refine ⟨[], rfl, ?_, True.intro⟩; (conv => whnf); (first | done | (simp_all only [refP, Bool.not_true, Bool.not_false, Bool.true_and, Bool.false_and, Bool.and_true, Bool.and_false, Bool.true_or, Bool.false_or, Bool.or_true, Bool.or_false, Bool.not_not, Bool.not_eq_true', Bool.not_eq_false', if_true, if_false, Bool.false_eq_true, Bool.true_eq_false, List.length_map]; done)))
    | fail)
theorem i81 (p : Lock → Bool) (l0 i0 : Nat) (xs : List Lock) (H : List (List Blk)) (hlen : xs.length < 1000000) (hp : ∀ x, x ∈ xs → ∀ T, CallEq X (T :: H) 81 [pLock x, .ptr (l0 + 2) i0 0] (.d (.bool (p x))) []) :
    CallEq X H 82 [.d (.sl (xs.map cLock)), .func (.func 81) [] [.ptr (l0 + 1) i0 0]] (.d (.int .i64 (idxOf p xs 0))) [] := by
  refine callEq_of_body X_ok rfl Try.func82 rfl ?_
  conv => whnf
  refine loopV_of (fun k : Nat => ⟨[.d (.sl (xs.map cLock)), .func (.func 81) [] [.ptr (l0 + 1) i0 0], .any, .any, .any, .any, .any, .d (.int .i64 (xs.map cLock).length), .d (.int .i64 k), .any, .any, .any, .any, .any, .any, .any, .any, .any, .any], []⟩) (fun k => k ≤ xs.length ∧ idxOf p xs 0 = idxOf p (xs.drop k) k) (fun k => xs.length - k) 0 [] ⟨Nat.zero_le _, by simp⟩ ?_ ?_
  · refine And.intro rfl (And.intro ?_ True.intro)
    repeat' (first | exact True.intro | exact rfl | refine And.intro ?_ ?_)
  · rintro k ⟨hk, hidx⟩
    conv => whnf
    refine And.intro (fun h_ => ?_) (fun h_ => ?_)
    · conv => whnf
      have hk' : k < xs.length := by simpa using h_
      obtain ⟨x, hx⟩ : ∃ x, xs[k]? = some x := ⟨_, List.getElem?_eq_getElem hk'⟩
      have hst := idxOf_step (p := p) hx
      refine ⟨by omega, cLock x, by simp [hx], rfl, ?_⟩
      conv => whnf
      refine ⟨_, _, hp x (List.mem_of_getElem? hx) _, True.intro, ?_⟩
      conv => whnf
      refine And.intro (fun h1 => ?_) (fun h1 => ?_)
      · conv => whnf
        refine ⟨[], rfl, ?_, True.intro⟩
        show DV.int .i64 (k : Int) = .int .i64 (idxOf p xs 0)
        rw [hidx, hst, h1]; rfl
      · conv => whnf
        intro z hz
        conv => whnf
        rw [wrap_small (by omega) (by omega)] at hz
        subst hz
        refine ⟨k + 1, [], ⟨by omega, ?_⟩, by omega, And.intro rfl (And.intro ?_ True.intro)⟩
        · rw [hidx, hst, h1]; rfl
        · repeat' (first | exact True.intro | exact rfl | refine And.intro ?_ ?_)
    · conv => whnf
      have hk' : k = xs.length := by simp at h_; omega
      refine ⟨[], rfl, ?_, True.intro⟩
      show DV.int .i64 (-1) = .int .i64 (idxOf p xs 0)
      rw [hidx, hk', List.drop_length]; rfl
theorem c51g (p : Lock → Bool) (l0 i0 : Nat) (xs : List Lock) (hl : xs.length < 1000000) (H : List (List Blk)) (hp : ∀ x, x ∈ xs → ∀ T T', CallEq X (T :: T' :: H) 81 [pLock x, .ptr (l0 + 3) i0 0] (.d (.bool (p x))) []) : CallEq X H 51 [.d (encLocks xs), .func (.func 81) [] [.ptr (l0 + 1) i0 0]] (.d (.bool (xs.any p))) [] := by
  rw [← idxOf_ge _ xs 0 (Int.le_refl _)]
  refine callEq_of_body X_ok rfl Try.func51 rfl ?_
  conv => whnf
  repeat' (first
    | (refine And.intro (fun h_ => ?_) (fun h_ => ?_) <;> (conv => whnf))
    | (refine ⟨_, _, i81 p _ _ xs _ hl (fun x hx T => hp x hx T _), (by first | exact True.intro | exact And.intro rfl flat_nil), ?_⟩; conv => whnf)
    | (intro z_ hz_; conv => whnf)
    | (refine ⟨[], rfl, ?_, True.intro⟩; (conv => whnf); (first | done | (simp_all only [refP, Bool.not_true, Bool.not_false, Bool.true_and, Bool.false_and, Bool.and_true, Bool.and_false, Bool.true_or, Bool.false_or, Bool.or_true, Bool.or_false, Bool.not_not, Bool.not_eq_true', Bool.not_eq_false', if_true, if_false, Bool.false_eq_true, Bool.true_eq_false, List.length_map]; done)))
    | fail)
theorem c80 (l : Locks) (x : Lock) (hl : l.held.length < 1000000) (T1 T2 : List Blk) (rest : List Blk) (H : List (List Blk)) : CallEq X (T1 :: T2 :: (bLocks l :: rest) :: H) 80 [pLock x, .ptr 3 0 0] (.d (.bool (l.held.any fun y => lClash y x))) [] := by
  refine callEq_of_body X_ok rfl Try.func80 rfl ?_
  conv => whnf
  repeat' (first
    | (refine And.intro (fun h_ => ?_) (fun h_ => ?_) <;> (conv => whnf))
    | (refine ⟨_, _, c51g (fun y => lClash y x) 0 0 l.held hl _ (fun y _ T T' => c81 x y _ _ _ _), (by first | exact True.intro | exact And.intro rfl flat_nil), ?_⟩; conv => whnf)
    | (intro z_ hz_; conv => whnf)
    | (refine ⟨[], rfl, ?_, True.intro⟩; (conv => whnf); (first | done | (simp_all only [refP, Bool.not_true, Bool.not_false, Bool.true_and, Bool.false_and, Bool.and_true, Bool.and_false, Bool.true_or, Bool.false_or, Bool.or_true, Bool.or_false, Bool.not_not, Bool.not_eq_true', Bool.not_eq_false', if_true, if_false, Bool.false_eq_true, Bool.true_eq_false, List.length_map]; done)))
    | fail)
theorem i80 (p : Lock → Bool) (l0 i0 : Nat) (xs : List Lock) (H : List (List Blk)) (hlen : xs.length < 1000000) (hp : ∀ x, x ∈ xs → ∀ T, CallEq X (T :: H) 80 [pLock x, .ptr (l0 + 2) i0 0] (.d (.bool (p x))) []) :
    CallEq X H 82 [.d (.sl (xs.map cLock)), .func (.func 80) [] [.ptr (l0 + 1) i0 0]] (.d (.int .i64 (idxOf p xs 0))) [] := by
  refine callEq_of_body X_ok rfl Try.func82 rfl ?_
  conv => whnf
  refine loopV_of (fun k : Nat => ⟨[.d (.sl (xs.map cLock)), .func (.func 80) [] [.ptr (l0 + 1) i0 0], .any, .any, .any, .any, .any, .d (.int .i64 (xs.map cLock).length), .d (.int .i64 k), .any, .any, .any, .any, .any, .any, .any, .any, .any, .any], []⟩) (fun k => k ≤ xs.length ∧ idxOf p xs 0 = idxOf p (xs.drop k) k) (fun k => xs.length - k) 0 [] ⟨Nat.zero_le _, by simp⟩ ?_ ?_
  · refine And.intro rfl (And.intro ?_ True.intro)
    repeat' (first | exact True.intro | exact rfl | refine And.intro ?_ ?_)
  · rintro k ⟨hk, hidx⟩
    conv => whnf
    refine And.intro (fun h_ => ?_) (fun h_ => ?_)
    · conv => whnf
      have hk' : k < xs.length := by simpa using h_
      obtain ⟨x, hx⟩ : ∃ x, xs[k]? = some x := ⟨_, List.getElem?_eq_getElem hk'⟩
      have hst := idxOf_step (p := p) hx
      refine ⟨by omega, cLock x, by simp [hx], rfl, ?_⟩
      conv => whnf
      refine ⟨_, _, hp x (List.mem_of_getElem? hx) _, True.intro, ?_⟩
      conv => whnf
      refine And.intro (fun h1 => ?_) (fun h1 => ?_)
      · conv => whnf
        refine ⟨[], rfl, ?_, True.intro⟩
        show DV.int .i64 (k : Int) = .int .i64 (idxOf p xs 0)
        rw [hidx, hst, h1]; rfl
      · conv => whnf
        intro z hz
        conv => whnf
        rw [wrap_small (by omega) (by omega)] at hz
        subst hz
        refine ⟨k + 1, [], ⟨by omega, ?_⟩, by omega, And.intro rfl (And.intro ?_ True.intro)⟩
        · rw [hidx, hst, h1]; rfl
        · repeat' (first | exact True.intro | exact rfl | refine And.intro ?_ ?_)
    · conv => whnf
      have hk' : k = xs.length := by simp at h_; omega
      refine ⟨[], rfl, ?_, True.intro⟩
      show DV.int .i64 (-1) = .int .i64 (idxOf p xs 0)
      rw [hidx, hk', List.drop_length]; rfl
theorem c51h (p : Lock → Bool) (l0 i0 : Nat) (xs : List Lock) (hl : xs.length < 1000000) (H : List (List Blk)) (hp : ∀ x, x ∈ xs → ∀ T T', CallEq X (T :: T' :: H) 80 [pLock x, .ptr (l0 + 3) i0 0] (.d (.bool (p x))) []) : CallEq X H 51 [.d (encLocks xs), .func (.func 80) [] [.ptr (l0 + 1) i0 0]] (.d (.bool (xs.any p))) [] := by
  rw [← idxOf_ge _ xs 0 (Int.le_refl _)]
  refine callEq_of_body X_ok rfl Try.func51 rfl ?_
  conv => whnf
  repeat' (first
    | (refine And.intro (fun h_ => ?_) (fun h_ => ?_) <;> (conv => whnf))
    | (refine ⟨_, _, i80 p _ _ xs _ hl (fun x hx T => hp x hx T _), (by first | exact True.intro | exact And.intro rfl flat_nil), ?_⟩; conv => whnf)
    | (intro z_ hz_; conv => whnf)
    | (refine ⟨[], rfl, ?_, True.intro⟩; (conv => whnf); (first | done | (simp_all only [refP, Bool.not_true, Bool.not_false, Bool.true_and, Bool.false_and, Bool.and_true, Bool.and_false, Bool.true_or, Bool.false_or, Bool.or_true, Bool.or_false, Bool.not_not, Bool.not_eq_true', Bool.not_eq_false', if_true, if_false, Bool.false_eq_true, Bool.true_eq_false, List.length_map]; done)))
    | fail)
structure Wr where
  t : Int
  key : List UInt8
  gone : Bool
  val : List UInt8
def cWr (x : Wr) : List DV := [.int .i64 x.t, encB x.key, .bool x.gone, encB x.val]
def encW (l : List Wr) : DV := .sl (l.map cWr)
def needL (w : Int) : List Wr → List Lock
  | [] => []
  | x :: xs => ⟨w, true, ⟨x.t, [], [], false⟩, 2⟩ :: ⟨w, false, pointS x.t x.key, 5⟩ :: needL w xs
theorem needL_snoc {w : Int} {l : List Wr} {k : Nat} {x : Wr} (h : l[k]? = some x) : needL w (l.take (k + 1)) = needL w (l.take k) ++ [⟨w, true, ⟨x.t, [], [], false⟩, 2⟩, ⟨w, false, pointS x.t x.key, 5⟩] := by
  have app : ∀ a b, needL w (a ++ b) = needL w a ++ needL w b := fun a b => by induction a with | nil => rfl | cons y a ih => simp [needL, ih]
  rw [take_snoc' h, app]; rfl
theorem needL_len (w : Int) (l : List Wr) : (needL w l).length = 2 * l.length := by induction l with | nil => rfl | cons y a ih => simp [needL, ih]; omega
def lFree (l : Locks) (w : Int) (ws : List Wr) : Bool := lCheck l && !((needL w ws).any fun x => l.held.any fun y => lClash y x)
theorem c41 (l : Locks) (w : Int) (ws : List Wr) (hs : smallLs l) (hw : ws.length < 10000) (hk : ∀ x ∈ ws, x.key.length ≤ 1000000) (H : List (List Blk)) : CallEq X H 41 [pLocks l, .d (.int .i64 w), .d (encW ws)] (.d (.bool (lFree l w ws))) [] := by
  refine callEq_of_body X_ok rfl Try.func41 rfl ?_
  conv => whnf
  refine loopV_of (fun k : Nat => ⟨[.any, .d (.int .i64 w), .any, .ptr 0 0 0, .any, .any, .any, .row 0 1 (needL w (ws.take k)).length, .any, .any, .d (encW ws), .d (.int .i64 (ws.map cWr).length), .d (.int .i64 k), .any, .any, .any, .any, .any, .any, .any, .any, .any, .any, .any, .any, .any, .any, .any, .any, .any, .any, .any, .any, .any, .any, .any, .any, .any, .any, .any], [bLocks l, .row 29 7 ((needL w (ws.take k)).map cLock)]⟩)
    (fun k => k ≤ ws.length) (fun k => ws.length - k) 0 [0, 100] (Nat.zero_le _) ?_ ?_
  · refine And.intro rfl (And.intro ?_ ?_)
    all_goals (repeat' (first | exact True.intro | exact rfl | refine And.intro ?_ ?_))
  · intro k hkl
    conv => whnf
    refine And.intro (fun h_ => ?_) (fun h_ => ?_)
    · conv => whnf
      have hk' : k < ws.length := by simpa using h_
      obtain ⟨x, hx⟩ : ∃ x, ws[k]? = some x := ⟨_, List.getElem?_eq_getElem hk'⟩
      have hp := fun H => c71 x.t x.key (hk x (List.mem_of_getElem? hx)) H
      have hn := needL_snoc (w := w) hx
      have hlen : (needL w (ws.take k)).length ≤ 20000 := by rw [needL_len, List.length_take]; omega
      refine ⟨by omega, cWr x, by simp [hx], rfl, ?_⟩
      conv => whnf
      refine ⟨_, _, hp _, True.intro, ?_⟩
      conv => whnf
      refine ⟨fun y hy => by simp at hy; rcases hy with rfl | rfl <;> rfl, ?_⟩
      conv => whnf
      refine ⟨by simp, by (first | (simp; omega) | (first | omega | (dsimp only; omega) | (simp; done) | (simp; omega))), ?_⟩
      conv => whnf
      intro z hz
      conv => whnf
      rw [wrap_small (by omega) (by omega)] at hz
      subst hz
      refine ⟨k + 1, [0, 3], by omega, by omega, And.intro rfl (And.intro ?_ ?_)⟩
      all_goals (try rw [hn])
      all_goals (repeat' (first | exact True.intro | exact rfl | refine And.intro ?_ ?_))
      · show PV.row 0 3 ((needL w (ws.take k)).length + 2) = PV.row 0 3 (needL w (ws.take k) ++ [_, _]).length
        rw [List.length_append]; rfl
      · rw [List.map_append]; rfl
    · conv => whnf
      have hk' : k = ws.length := by simp at h_; omega
      subst hk'
      rw [List.take_length]
      have hlen : (needL w ws).length < 1000000 := by rw [needL_len]; omega
      have hh := hs.1
      have hc : ∀ H rest, CallEq X ((bLocks l :: rest) :: H) 51 [.d (encLocks (needL w ws)), .func (.func 80) [] [.ptr 1 0 0]] (.d (.bool ((needL w ws).any fun x => l.held.any fun y => lClash y x))) [] := fun H rest => c51h (fun x => l.held.any fun y => lClash y x) 0 0 (needL w ws) hlen _ (fun x _ T T' => c80 l x (by omega) _ _ _ _)
      rw [show encLocks (needL w ws) = .sl (List.take (needL w ws).length ((needL w ws).map cLock)) by rw [List.take_of_length_le (by simp)]; rfl] at hc
      have h19 := fun H => c19 l hs.1 hs.2.1 H
      unfold lFree
      generalize ((needL w ws).any fun x => l.held.any fun y => lClash y x) = b at hc ⊢
      refine ⟨_, _, h19 _, True.intro, ?_⟩
      conv => whnf
      refine And.intro (fun h => ?_) (fun h => ?_) <;> rw [h]
      · conv => whnf
        refine ⟨_, _, hc _ _, And.intro rfl flat_nil, ?_⟩
        conv => whnf
        refine ⟨[], rfl, ?_, True.intro⟩
        (repeat' (first | exact True.intro | exact rfl | refine And.intro ?_ ?_))
      · conv => whnf
        refine ⟨[], rfl, ?_, True.intro⟩
        (repeat' (first | exact True.intro | exact rfl | refine And.intro ?_ ?_))
end Go.Proofs.Ve

/- Plain laws of Break. -/
set_option maxRecDepth 100000
set_option linter.all false
namespace Go.Proofs.Ve
open Go
theorem clash_owner {a b : Lock} (h : lClash a b = true) : a.owner ≠ b.owner := fun e => by
  unfold lClash at h
  rw [show (a.owner == b.owner) = true by simp [e]] at h
  simp at h
theorem two_left {g : Nat → Bool} {i j : Nat} (hi : i < 4) (hj : j < 4) (hij : i ≠ j) (h1 : g i = false) (h2 : g j = false) : cntG g ≤ 2 := by
  unfold cntG
  have b : ∀ b : Bool, b.toNat ≤ 1 := fun b => by cases b <;> simp
  have b0 := b (g 0); have b1 := b (g 1); have b2 := b (g 2); have b3 := b (g 3)
  match i, hi, j, hj, hij with
  | 0, _, 0, _, h => exact absurd rfl h
  | 0, _, 1, _, _ => rw [h1, h2]; simp; omega
  | 0, _, 2, _, _ => rw [h1, h2]; simp; omega
  | 0, _, 3, _, _ => rw [h1, h2]; simp; omega
  | 1, _, 0, _, _ => rw [h1, h2]; simp; omega
  | 1, _, 1, _, h => exact absurd rfl h
  | 1, _, 2, _, _ => rw [h1, h2]; simp; omega
  | 1, _, 3, _, _ => rw [h1, h2]; simp; omega
  | 2, _, 0, _, _ => rw [h1, h2]; simp; omega
  | 2, _, 1, _, _ => rw [h1, h2]; simp; omega
  | 2, _, 2, _, h => exact absurd rfl h
  | 2, _, 3, _, _ => rw [h1, h2]; simp; omega
  | 3, _, 0, _, _ => rw [h1, h2]; simp; omega
  | 3, _, 1, _, _ => rw [h1, h2]; simp; omega
  | 3, _, 2, _, _ => rw [h1, h2]; simp; omega
  | 3, _, 3, _, h => exact absurd rfl h
theorem three_stuck {l : Locks} {g : Nat → Bool} (h : Gone l g) (hc : cntG g ≥ 3) : stuckM (waysM (edgesL l)) = [] := by
  refine List.eq_nil_iff_forall_not_mem.2 fun x hx => ?_
  obtain ⟨i, hi, rfl, hw⟩ := (stuck_mem _ _).1 hx
  obtain ⟨n, W⟩ := (ways_iff _ hi hi).1 hw
  have : ∃ k, k < 4 ∧ edgesM (edgesL l) i k = true := by
    cases W with
    | one _ hj ha => exact ⟨_, hj, ha⟩
    | step _ hk ha _ => exact ⟨_, hk, ha⟩
  obtain ⟨k, hk, ha⟩ := this
  obtain ⟨_, hok, pre, y, post, hq, ho, z, hz, hcl, hzo⟩ := (edge_iff l i k).1 ((edgesM_iff _ hi hk).1 ha)
  have hne := clash_owner hcl
  rw [hzo, ho] at hne
  have n1 : g i = false := by
    cases hg : g i with
    | false => rfl
    | true => exact absurd ho (h i hi hg y (by rw [hq]; simp))
  have n2 : g k = false := by
    cases hg : g k with
    | false => rfl
    | true =>
      refine absurd hzo (h k hk hg z ?_)
      rcases List.mem_append.1 hz with hz | hz
      · exact List.mem_append_left _ hz
      · rw [hq]; exact List.mem_append_right _ (List.mem_append_left _ hz)
  have := two_left hk hi (fun e => hne (by rw [e])) n2 n1
  omega
structure BrkOk (l0 : Locks) (R : Locks × List Int) : Prop where
  stuck : stuckM (waysM (edgesL R.1)) = []
  len : R.2.length ≤ 3
  waits : ∀ x ∈ R.2, lWaits l0 x = true
  gone : ∀ x ∈ R.2, ∀ y ∈ R.1.held, y.owner ≠ x
  small : smallLs R.1
theorem brk_inv (s : Nat → Int) (l0 : Locks) : ∀ (n : Nat) (l : Locks) (g : List Int) (gs : Nat → Bool), n + cntG gs = 4 → g.length = cntG gs → Gone l gs → (∀ x ∈ stuckM (waysM (edgesL l)), x ∈ stuckM (waysM (edgesL l0))) → g.length ≤ 3 → smallLs l →
    (∀ x ∈ g, lWaits l0 x = true ∧ ∃ v : Nat, v < 4 ∧ x = v ∧ gs v = true) → BrkOk l0 (brk s n l g) := by
  intro n
  induction n with
  | zero => intro l g gs h1 h2 _ _ h3; omega
  | succ n ih =>
    intro l g gs h1 h2 hG hsub h3 hs hg
    have fin : stuckM (waysM (edgesL l)) = [] → BrkOk l0 (l, g) := fun hn => by
      refine ⟨hn, h3, fun x hx => (hg x hx).1, fun x hx y hy => ?_, hs⟩
      obtain ⟨_, v, hv, rfl, hgv⟩ := hg x hx
      exact hG v hv hgv y (List.mem_append_left _ hy)
    unfold brk
    cases hS : stuckM (waysM (edgesL l)) with
    | nil => exact fin hS
    | cons b S =>
      have hvm := max_mem s S b
      rw [← hS] at hvm
      show BrkOk l0 (brk s n (lDrop l (maxF s b S)).1 (g ++ [maxF s b S]))
      generalize maxF s b S = v at hvm ⊢
      have hin := stuck_in4 (waysM (edgesL l)) v hvm
      obtain ⟨v, hv4, rfl⟩ : ∃ n : Nat, n < 4 ∧ v = n := ⟨v.toNat, by unfold in4 at hin; omega, by unfold in4 at hin; omega⟩
      obtain ⟨hok, hgv⟩ := stuck_not_gone hG hv4 hvm
      obtain ⟨ok2, G2⟩ := gone_step hok hG hv4
      have hc3 : cntG gs ≤ 2 := by
        rcases Nat.lt_or_ge (cntG gs) 3 with h | h
        · omega
        · rw [three_stuck hG h] at hvm; cases hvm
      refine ih _ _ _ (by rw [cntG_set hv4 hgv]; omega) (by rw [cntG_set hv4 hgv]; simp [h2]) G2 (fun x hx => hsub x (stuck_drop l _ x hx)) (by simp; omega) (ok_small ok2) (fun x hx => ?_)
      rcases List.mem_append.1 hx with hx | hx
      · obtain ⟨q1, u, q2, q3, q4⟩ := hg x hx
        refine ⟨q1, u, q2, q3, ?_⟩
        show (bif Nat.beq u v then true else gs u) = true
        rw [q4]; cases Nat.beq u v <;> rfl
      · simp at hx; subst hx
        refine ⟨stuck_waits (hsub _ hvm), v, hv4, rfl, ?_⟩
        show (bif Nat.beq v v then true else gs v) = true
        rw [Nat.beq_refl]; rfl
theorem brk_ok (s : Nat → Int) (l : Locks) (hs : smallLs l) : BrkOk l (brk s 4 l []) :=
  brk_inv s l 4 l [] (fun _ => false) rfl rfl (fun x _ h => by cases h) (fun _ h => h) (Nat.zero_le _) hs (fun x hx => by cases hx)
theorem brk_again (s : Nat → Int) (l : Locks) (hs : smallLs l) : brk s 4 (brk s 4 l []).1 [] = ((brk s 4 l []).1, []) := by
  have h := (brk_ok s l hs).stuck
  generalize (brk s 4 l []).1 = a at h
  unfold brk; rw [h]
end Go.Proofs.Ve

/- Hold: plain laws. -/
set_option maxRecDepth 100000
set_option linter.all false
namespace Go.Proofs.Ve
open Go
theorem ask_bad {l : Locks} (h : lCheck l = false) (x : Lock) : lAsk l x = (l, 1) := by
  unfold lAsk; rw [h]; rfl
theorem aft_bad {l : Locks} (h : lCheck l = false) : ∀ xs, aft l xs = l
  | [] => rfl
  | x :: xs => by
    show aft (lAsk l x).1 xs = l
    rw [ask_bad h]; exact aft_bad h xs
theorem aft_ok : ∀ (xs : List Lock) {l : Locks}, Ok l → Ok (aft l xs)
  | [], l, h => h
  | x :: xs, l, h => aft_ok xs (ask_ok h x).1
theorem aft_small {l : Locks} (hs : smallLs l) (xs : List Lock) : smallLs (aft l xs) := by
  cases hc : lCheck l with
  | false => rw [aft_bad hc]; exact hs
  | true => exact ok_small (aft_ok xs ((check_iff l).1 hc))
theorem oLocks_len (o : Oper) (w : Int) : (oLocks o w).length ≤ 2 := by
  unfold oLocks
  repeat' split
  all_goals simp
theorem about_small {o : Oper} (ho : smallO o) : (oAbout o).1.lo.length ≤ 1000 ∧ (oAbout o).1.hi.length ≤ 1000 := by
  obtain ⟨h1, h2, h3⟩ := ho
  unfold oAbout
  repeat' split
  all_goals simp [pointS, spanO, zeroS]; try omega
theorem oLocks_small {o : Oper} (ho : smallO o) (w : Int) : ∀ x ∈ oLocks o w, smallX x := by
  have h := about_small ho
  have hw : ∀ m, smallX (wholeL o w m) := fun m => ⟨by simp [wholeL], by simp [wholeL]⟩
  intro x hx
  unfold oLocks at hx
  repeat' split at hx
  · cases hx
  · rw [List.mem_singleton] at hx; subst hx; exact hw _
  · rw [List.mem_singleton] at hx; subst hx; exact hw _
  · rcases List.mem_cons.1 hx with rfl | hx
    · exact hw _
    · rw [List.mem_singleton] at hx; subst hx; exact ⟨by show (oAbout o).1.lo.length ≤ _; omega, by show (oAbout o).1.hi.length ≤ _; omega⟩
theorem s39 (l : Locks) (w : Int) (o : Oper) (ho : smallO o) (hs : smallLs l) (H : List (List Blk)) : CallEq X H 39 [pLocks l, .d (.int .i64 w), pOper o] (pHold (holdF l (oLocks o w))) [] := by
  have := c39 l w o ho hs (by have := oLocks_len o w; omega) (fun k x hx => ⟨by rw [own_eq]; exact aft_small hs _, oLocks_small ho w x (List.mem_of_getElem? hx)⟩) H
  unfold lHold at this
  rwa [own_eq] at this
/-! ### reckoning -/
def eHoldF : Locks → List Lock → Locks × Int
  | l, [] => (l, 0)
  | l, x :: xs => if (eAsk l x).2 != 0 then eAsk l x else eHoldF (eAsk l x).1 xs
theorem eholdF_eq : ∀ (xs : List Lock) (l : Locks), holdF l xs = eHoldF l xs
  | [], _ => rfl
  | x :: xs, l => by unfold holdF eHoldF; rw [eask_eq, eholdF_eq xs]
def smallOB (o : Oper) : Bool := Nat.ble o.key.length 100 && (Nat.ble o.hi.length 100 && Nat.ble o.val.length 100)
theorem smallO_of {o : Oper} (h : smallOB o = true) : smallO o := by
  unfold smallOB at h
  simp only [Bool.and_eq_true] at h
  exact ⟨Nat.le_of_ble_eq_true h.1, Nat.le_of_ble_eq_true h.2.1, Nat.le_of_ble_eq_true h.2.2⟩
theorem e39 (l : Locks) (w : Int) (o : Oper) (ho : smallOB o = true) (hs : smallB l = true) (H : List (List Blk)) : CallEq X H 39 [pLocks l, .d (.int .i64 w), pOper o] (pHold (eHoldF l (oLocks o w))) [] :=
  eholdF_eq _ l ▸ s39 l w o (smallO_of ho) (small_of hs) H
def eFree (l : Locks) (w : Int) (ws : List Wr) : Bool := eCheck l && !((needL w ws).any fun x => l.held.any fun y => lClash y x)
theorem e41 (l : Locks) (w : Int) (ws : List Wr) (hs : smallB l = true) (hw : Nat.blt ws.length 10000 = true) (hk : (ws.all fun x => Nat.ble x.key.length 1000000) = true) (H : List (List Blk)) : CallEq X H 41 [pLocks l, .d (.int .i64 w), .d (encW ws)] (.d (.bool (eFree l w ws))) [] := by
  have := c41 l w ws (small_of hs) (by simpa [Nat.blt_eq] using hw) (fun x hx => Nat.le_of_ble_eq_true (List.all_eq_true.1 hk x hx)) H
  unfold lFree at this
  rwa [echeck_eq] at this
end Go.Proofs.Ve

/- Hand: awake. -/
set_option maxRecDepth 100000
set_option maxHeartbeats 4000000
set_option linter.all false
namespace Go.Proofs.Ve
open Go
noncomputable def eBrk (s : Nat → Int) : Nat → Locks → List Int → Locks × List Int
  | 0, l, g => (l, g)
  | n + 1, l, g => match stuckM (waysM (eEdges l)) with | [] => (l, g) | b :: S => eBrk s n (eDrop l (maxF s b S)).1 (g ++ [maxF s b S])
theorem ebrk_eq (s : Nat → Int) : ∀ (n : Nat) (l : Locks) (g : List Int), brk s n l g = eBrk s n l g
  | 0, _, _ => rfl
  | n + 1, l, g => by
    unfold brk eBrk
    rw [eedges_eq]
    cases stuckM (waysM (eEdges l)) with
    | nil => rfl
    | cons b S => dsimp only; rw [edrop_eq, ebrk_eq s n]
theorem e42 (l : Locks) (s : Nat → Int) (hs : smallB l = true) (H : List (List Blk)) : CallEq X H 42 [pLocks l, pSt s] (pBrk (eBrk s 4 l [])) [] := ebrk_eq s 4 l [] ▸ c42 l s (small_of hs) H
def putO (s : ByteArray) : Oper := ⟨2, 0, s.data.toList, [], false, [], 0⟩
theorem c76 (s : ByteArray) (hs : s.size ≤ 1000000) (H : List (List Blk)) : CallEq X H 76 [.d (.str s)] (pOper (putO s)) [] := by
  refine callEq_of_body X_ok rfl Try.func76 rfl ?_
  conv => whnf
  refine ⟨rfl, by omega, ?_⟩
  conv => whnf
  refine ⟨[], rfl, ?_, ?_⟩
  all_goals (repeat' (first | exact True.intro | exact rfl | refine And.intro ?_ ?_))
def hA : Locks := (eHoldF k0 (oLocks (putO tA) 0)).1
def hB : Locks := (eHoldF hA (oLocks (putO tB) 1)).1
def hC : Locks := (eHoldF hB (oLocks (putO tB) 0)).1
def hD : Locks := (eHoldF hC (oLocks (putO tA) 1)).1
noncomputable def hX : Locks := (eBrk (fun i => [3, 7, 0, 0].getD i 0) 4 hD []).1
def tZ : ByteArray := ⟨#[122]⟩
def wA : Wr := ⟨0, [97], false, []⟩
def wZ : Wr := ⟨0, [122], false, []⟩
theorem c37 (H : List (List Blk)) : CallEq X H 37 [] (.d (.bool true)) [] := by
  refine callEq_of_body X_ok rfl Try.func37 rfl ?_
  conv => whnf
  refine ⟨_, _, c76 tA (by decide) _, True.intro, ?_⟩
  conv => whnf
  refine ⟨_, _, e39 k0 0 (putO tA) (by kernel_rfl) (by kernel_rfl) _, True.intro, ?_⟩
  conv => whnf
  refine ⟨_, _, c76 tB (by decide) _, True.intro, ?_⟩
  conv => whnf
  refine ⟨_, _, e39 hA 1 (putO tB) (by kernel_rfl) (by kernel_rfl) _, True.intro, ?_⟩
  conv => whnf
  refine ⟨_, _, c76 tB (by decide) _, True.intro, ?_⟩
  conv => whnf
  refine ⟨_, _, e39 hB 0 (putO tB) (by kernel_rfl) (by kernel_rfl) _, True.intro, ?_⟩
  conv => whnf
  refine ⟨_, _, c76 tA (by decide) _, True.intro, ?_⟩
  conv => whnf
  refine ⟨_, _, e39 hC 1 (putO tA) (by kernel_rfl) (by kernel_rfl) _, True.intro, ?_⟩
  conv => whnf
  refine ⟨_, _, e42 hD (fun i => [3, 7, 0, 0].getD i 0) (by kernel_rfl) _, True.intro, ?_⟩
  conv => whnf
  repeat (first
    | (refine And.intro (fun _ => ?_) (fun h => absurd (h.symm.trans (by kernel_rfl)) (show ¬ ((!true) = true) by decide)); conv => whnf)
    | (refine ⟨_, _, e16 (eBrk (fun i => [3, 7, 0, 0].getD i 0) 4 hD []).2 [1] (by kernel_rfl) _, True.intro, ?_⟩; conv => whnf)
    | (refine ⟨_, _, e23 hX 0 (by kernel_rfl) _, True.intro, ?_⟩; conv => whnf)
    | (refine ⟨_, _, e41 hA 1 [wA] (by kernel_rfl) (by kernel_rfl) (by kernel_rfl) _, True.intro, ?_⟩; conv => whnf)
    | (refine ⟨_, _, e41 hA 0 [wA] (by kernel_rfl) (by kernel_rfl) (by kernel_rfl) _, True.intro, ?_⟩; conv => whnf)
    | (refine ⟨_, _, e41 hA 1 [] (by kernel_rfl) (by kernel_rfl) (by kernel_rfl) _, True.intro, ?_⟩; conv => whnf)
    | (refine ⟨_, _, e41 hA 1 [wZ] (by kernel_rfl) (by kernel_rfl) (by kernel_rfl) _, True.intro, ?_⟩; conv => whnf))
  refine ⟨rfl, by decide, by (first | omega | (dsimp only; omega) | (simp; done) | (simp; omega)), by decide, ?_⟩
  conv => whnf
  refine ⟨_, _, e41 k41 1 [] (by kernel_rfl) (by kernel_rfl) (by kernel_rfl) _, And.intro rfl flat_nil, ?_⟩
  conv => whnf
  refine ⟨[], rfl, ?_, True.intro⟩
  show DV.bool _ = DV.bool true
  exact congrArg DV.bool (by kernel_rfl)
end Go.Proofs.Ve

/- Plain laws of Hold. -/
set_option maxRecDepth 100000
set_option linter.all false
namespace Go.Proofs.Ve
open Go
theorem above_tab : mAbove 3 = 1 ∧ mAbove 5 = 2 := by decide
theorem about_cases (o : Oper) : oAbout o = (pointS o.t o.key, 3) ∨ oAbout o = (pointS o.t o.key, 5) ∨ oAbout o = (spanO o, 3) ∨ oAbout o = (zeroS, 0) := by
  unfold oAbout
  split
  · exact .inl rfl
  · split
    · exact .inr (.inl rfl)
    · split
      · exact .inr (.inr (.inl rfl))
      · exact .inr (.inr (.inr rfl))
theorem may_of {o : Oper} (hc : oCheck o = true) {w : Int} (hw : 0 ≤ w ∧ w < 4) : ∀ x ∈ oLocks o w, lMay x = true ∧ x.owner = w := by
  have hc0 := hc
  unfold oCheck oKnown at hc
  simp only [Bool.and_eq_true, decide_eq_true_eq, Bool.not_eq_true', decide_eq_false_iff_not, Bool.and_eq_false_iff] at hc
  obtain ⟨⟨⟨⟨⟨hnum, ⟨⟨hk1, hk2⟩, ht1⟩, ht2⟩, hkey⟩, hhi⟩, hop⟩, hval⟩ := hc
  have ow : (decide (w < 0)) = false := by simp; omega
  have ow4 : (decide (w ≥ 4)) = false := by simp; omega
  have whole : ∀ m, mIs m = true → lMay (wholeL o w m) = true := fun m hm => by
    unfold lMay wholeL sCheck
    simp [ow, ow4, covers_self, hm]
    omega
  have hm35 : (oAbout o).2 = 0 ∨ (oAbout o).2 = 3 ∨ (oAbout o).2 = 5 := by
    unfold oAbout; repeat' split
    all_goals simp
  have one : (oAbout o).2 ≠ 0 → sEmpty (oAbout o).1 = false → lMay ⟨w, false, (oAbout o).1, (oAbout o).2⟩ = true := fun h0 he => by
    have hs : sCheck (oAbout o).1 = true := by
      have p1 : (o.key.length : Int) ≤ 16 := by omega
      have p2 : (o.hi.length : Int) ≤ 16 := by omega
      have t1 : decide (o.t ≥ 0) = true := by simp; omega
      have t2 : decide (o.t < 4) = true := by simp; omega
      have k1 : decide ((o.key.length : Int) ≤ 17) = true := by simp; omega
      have k2 : decide (((o.key ++ [(0 : UInt8)]).length : Int) ≤ 17) = true := by rw [List.length_append]; simp; omega
      have k3 : decide ((o.hi.length : Int) ≤ 17) = true := by simp; omega
      have k4 : (!o.op || (o.hi.length : Int) == 0) = true := by
        rcases hop with h | h
        · rw [h]; rfl
        · have : (o.hi.length : Int) = 0 := by omega
          rw [this]; cases o.op <;> rfl
      have point : sCheck (pointS o.t o.key) = true := by unfold sCheck pointS; dsimp only; rw [t1, t2, k1, k2]; rfl
      have span : sCheck (spanO o) = true := by unfold sCheck spanO; dsimp only; rw [t1, t2, k1, k3, k4]; rfl
      rcases about_cases o with e | e | e | e <;> rw [e] at h0 ⊢
      · exact point
      · exact point
      · exact span
      · exact absurd rfl h0
    unfold lMay
    simp only [ow, ow4, hs, he]
    rcases hm35 with h | h | h
    · exact absurd h h0
    · simp [h]
    · simp [h]
  intro x hx
  unfold oLocks at hx
  rw [hc0] at hx
  have e0 : (errI true != 0) = false := rfl
  rw [e0, Bool.false_or] at hx
  split at hx
  · cases hx
  · rename_i hn
    split at hx
    · rename_i h8
      rw [List.mem_singleton] at hx; subst hx
      refine ⟨whole _ ?_, rfl⟩
      unfold oNum at hnum
      rw [h8] at hnum
      simp at hnum
      rcases hnum with h | h <;> rw [h] <;> decide
    · rename_i h8
      have hm0 : (oAbout o).2 ≠ 0 := fun h => by
        apply hn
        simp [h]
        intro e; exact h8 (by simp [e])
      have hab : mIs (mAbove (oAbout o).2) = true := by
        rcases hm35 with h | h | h
        · exact absurd h hm0
        · rw [h]; decide
        · rw [h]; decide
      split at hx
      · rw [List.mem_singleton] at hx; subst hx
        exact ⟨whole _ hab, rfl⟩
      · rename_i he
        rcases List.mem_cons.1 hx with rfl | hx
        · exact ⟨whole _ hab, rfl⟩
        · rw [List.mem_singleton] at hx; subst hx
          exact ⟨one hm0 (by simpa using he), rfl⟩
theorem asks_bad {o : Oper} (h : oCheck o = false) (w : Int) : oLocks o w = [] := by
  unfold oLocks
  rw [h]; rfl
theorem may_asks (o : Oper) {w : Int} (hw : 0 ≤ w ∧ w < 4) : ∀ x ∈ oLocks o w, lMay x = true ∧ x.owner = w := by
  cases hc : oCheck o with
  | true => exact may_of hc hw
  | false => rw [asks_bad hc]; intro x hx; cases hx
/-- the asks' shape: one for a whole table, and one for a part -/
theorem asks_shape (o : Oper) (w : Int) : oLocks o w = [] ∨ (∃ x, oLocks o w = [x]) ∨ ∃ x y, oLocks o w = [x, y] ∧ y.whole = false := by
  unfold oLocks
  repeat' split
  · exact .inl rfl
  · exact .inr (.inl ⟨_, rfl⟩)
  · exact .inr (.inl ⟨_, rfl⟩)
  · exact .inr (.inr ⟨_, _, rfl, rfl⟩)
structure AskOk (l : Locks) (x : Lock) (r : Locks × Int) : Prop where
  ok : Ok r.1
  zero : r.2 = 0 → r.1.queue = l.queue ∧ lWaits l x.owner = false ∧ r.1.held.any (fun h => lServes h x) = true ∧ (x.whole = false → ∀ h ∈ l.held, h ∈ r.1.held)
  wait : r.2 = 110 → lWaits l x.owner = false ∧ lWaits r.1 x.owner = true
  else_ : r.2 ≠ 0 → r.2 ≠ 110 → r.1 = l ∧ (r.2 = 1 ∨ r.2 = 111)
theorem ask_told {l : Locks} (h : Ok l) {x : Lock} (hx : lMay x = true) : AskOk l x (lAsk l x) := by
  have hok := ask_ok h x
  have hc := (check_iff l).2 h
  have hj := serves_joined h hx
  have hjo := joined_ok h hx
  refine ⟨hok.1, fun h0 => ?_, fun h0 => ?_, fun h0 h1 => ?_⟩
  · unfold lAsk at h0 ⊢
    rw [hc, hx] at h0 ⊢
    simp only [Bool.not_true, Bool.false_or] at h0 ⊢
    split at h0
    · cases h0
    · rename_i hw
      have hw : lWaits l x.owner = false := by simpa using hw
      rw [hw]
      simp only [Bool.false_eq_true, if_false]
      split at h0
      · rename_i hs
        rw [if_pos hs]
        exact ⟨rfl, True.intro, hs, fun _ h hh => hh⟩
      · rename_i hs
        rw [if_neg hs]
        split at h0
        · cases h0
        · rename_i h40
          rw [if_neg h40]
          split at h0
          · cases h0
          · rename_i hah
            rw [if_neg hah]
            refine ⟨rfl, True.intro, ?_, fun hnw g hg => ?_⟩
            · rw [List.any_eq_true]
              refine ⟨lJoined l x, ?_, hj⟩
              show lJoined l x ∈ holdL l.held (lJoined l x)
              unfold holdL
              split
              · rename_i hge
                obtain ⟨_, y, hy, _⟩ := idxOf_lt (lWholeP (lJoined l x)) l.held 0 (by omega) hge
                have : (lWhole l.held (lJoined l x)).toNat < l.held.length := by
                  have := (List.getElem?_eq_some_iff.1 hy).1
                  simpa [lWhole] using this
                exact List.mem_iff_getElem.2 ⟨(lWhole l.held (lJoined l x)).toNat, by simpa using this, by simp⟩
              · exact List.mem_append_right _ (List.mem_singleton.2 rfl)
            · show g ∈ holdL l.held (lJoined l x)
              rw [hjo.2.2.2.2.2.1 hnw]
              unfold holdL
              rw [if_neg]
              · exact List.mem_append_left _ hg
              · intro hge
                obtain ⟨_, y, _, hy⟩ := idxOf_lt (lWholeP x) l.held 0 (by omega) hge
                unfold lWholeP at hy
                rw [hnw] at hy; simp at hy
  · rcases hok.2 with ⟨e, _⟩ | ⟨_, _, e⟩ | ⟨_, e, _⟩
    · rw [e] at h0; cases h0
    · refine ⟨?_, e⟩
      cases hw : lWaits l x.owner with
      | false => rfl
      | true =>
        unfold lAsk at h0
        rw [hc, hx, hw] at h0
        simp at h0
    · exact absurd h0 e
  · rcases hok.2 with ⟨e, _⟩ | ⟨e, _⟩ | ⟨_, _, e⟩
    · exact absurd e h0
    · exact absurd e h1
    · refine ⟨e, ?_⟩
      unfold lAsk at h0 h1 ⊢
      repeat' split
      all_goals simp_all
theorem waits_queue {a b : Locks} (ha : Ok a) (hb : Ok b) (h : a.queue = b.queue) (w : Int) : lWaits a w = lWaits b w := by
  rw [Bool.eq_iff_iff, waits_iff, waits_iff, h]
  exact ⟨fun q => ⟨hb, q.2⟩, fun q => ⟨ha, q.2⟩⟩
structure HoldTold (l : Locks) (w : Int) (r : Locks × Int) : Prop where
  ok : Ok r.1
  num : r.2 = 0 ∨ r.2 = 1 ∨ r.2 = 110 ∨ r.2 = 111
  wait : (r.2 == 110) = (lWaits r.1 w && !lWaits l w)
  zero : r.2 = 0 → r.1.queue = l.queue
theorem hold_told {w : Int} : ∀ (xs : List Lock) (l : Locks), Ok l → (∀ x ∈ xs, lMay x = true ∧ x.owner = w) → HoldTold l w (holdF l xs)
  | [], l, h, _ => ⟨h, .inl rfl, by show ((0 : Int) == 110) = (lWaits l w && !lWaits l w); cases lWaits l w <;> rfl, fun _ => rfl⟩
  | x :: xs, l, h, hx => by
    have A := ask_told h (hx x (List.mem_cons_self ..)).1
    have ho := (hx x (List.mem_cons_self ..)).2
    unfold holdF
    by_cases h0 : (lAsk l x).2 = 0
    · have hb : ((lAsk l x).2 != 0) = false := by simp [h0]
      rw [hb]
      have I := hold_told xs (lAsk l x).1 A.ok (fun y hy => hx y (List.mem_cons_of_mem _ hy))
      obtain ⟨q1, _, _, _⟩ := A.zero h0
      exact ⟨I.ok, I.num, by rw [← waits_queue A.ok h q1]; exact I.wait, fun e => (I.zero e).trans q1⟩
    · have hb : ((lAsk l x).2 != 0) = true := by simp [h0]
      rw [hb, if_pos rfl]
      by_cases h1 : (lAsk l x).2 = 110
      · obtain ⟨w1, w2⟩ := A.wait h1
        rw [ho] at w1 w2
        exact ⟨A.ok, .inr (.inr (.inl h1)), by rw [h1, w1, w2]; rfl, fun e => absurd e h0⟩
      · obtain ⟨e1, e2⟩ := A.else_ h0 h1
        refine ⟨A.ok, ?_, ?_, fun e => absurd e h0⟩
        · rcases e2 with e2 | e2 <;> simp [e2]
        · rw [e1]
          have : ((lAsk l x).2 == 110) = false := by simp [h1]
          rw [this]; cases lWaits l w <;> rfl
theorem ask_served {a : Locks} (h : Ok a) {x : Lock} (hx : lMay x = true) (hw : lWaits a x.owner = false) (hs : a.held.any (fun h => lServes h x) = true) : lAsk a x = (a, 0) := by
  unfold lAsk
  rw [(check_iff a).2 h, hx, hw, hs]; rfl
theorem hold_served {a : Locks} (h : Ok a) {w : Int} (hw : lWaits a w = false) : ∀ xs : List Lock, (∀ x ∈ xs, lMay x = true ∧ x.owner = w ∧ a.held.any (fun h => lServes h x) = true) → holdF a xs = (a, 0)
  | [], _ => rfl
  | x :: xs, hx => by
    obtain ⟨h1, h2, h3⟩ := hx x (List.mem_cons_self ..)
    unfold holdF
    rw [ask_served h h1 (h2 ▸ hw) h3]
    exact hold_served h hw xs (fun y hy => hx y (List.mem_cons_of_mem _ hy))
/-- Who holds what an operation needs: each ask is served; and it is held again without a change. -/
theorem hold_again {l : Locks} (h : Ok l) (o : Oper) {w : Int} (hw : 0 ≤ w ∧ w < 4) (h0 : (holdF l (oLocks o w)).2 = 0) :
    (∀ x ∈ oLocks o w, (holdF l (oLocks o w)).1.held.any (fun h => lServes h x) = true) ∧ holdF (holdF l (oLocks o w)).1 (oLocks o w) = ((holdF l (oLocks o w)).1, 0) := by
  have hm := may_asks o hw
  have T := hold_told (oLocks o w) l h hm
  have key : (∀ x ∈ oLocks o w, (holdF l (oLocks o w)).1.held.any (fun h => lServes h x) = true) ∧ (oLocks o w ≠ [] → lWaits l w = false) := by
    rcases asks_shape o w with e | ⟨x, e⟩ | ⟨x, y, e, hy⟩
    · rw [e]; exact ⟨(fun x hx => by cases hx), fun h => absurd rfl h⟩
    · rw [e] at hm h0 ⊢
      have A := ask_told h (hm x (by simp)).1
      have ho := (hm x (by simp)).2
      unfold holdF at h0 ⊢
      by_cases hz : (lAsk l x).2 = 0
      · have hb : ((lAsk l x).2 != 0) = false := by simp [hz]
        rw [hb]
        obtain ⟨_, q2, q3, _⟩ := A.zero hz
        exact ⟨fun z hz => by rw [List.mem_singleton] at hz; subst hz; exact q3, fun _ => ho ▸ q2⟩
      · have hb : ((lAsk l x).2 != 0) = true := by simp [hz]
        rw [hb, if_pos rfl] at h0
        exact absurd h0 hz
    · rw [e] at hm h0 ⊢
      have A := ask_told h (hm x (by simp)).1
      have ho := (hm x (by simp)).2
      unfold holdF at h0 ⊢
      by_cases hz : (lAsk l x).2 = 0
      · have hb : ((lAsk l x).2 != 0) = false := by simp [hz]
        rw [hb] at h0 ⊢
        simp only [Bool.false_eq_true, if_false] at h0 ⊢
        obtain ⟨_, q2, q3, _⟩ := A.zero hz
        have B := ask_told A.ok (hm y (by simp)).1
        unfold holdF at h0 ⊢
        by_cases hz2 : (lAsk (lAsk l x).1 y).2 = 0
        · have hb2 : ((lAsk (lAsk l x).1 y).2 != 0) = false := by simp [hz2]
          rw [hb2]
          simp only [Bool.false_eq_true, if_false, holdF]
          obtain ⟨_, _, p3, p4⟩ := B.zero hz2
          refine ⟨fun z hz => ?_, fun _ => ho ▸ q2⟩
          rcases List.mem_cons.1 hz with rfl | hz
          · rw [List.any_eq_true] at q3 ⊢
            obtain ⟨g, g1, g2⟩ := q3
            exact ⟨g, p4 hy g g1, g2⟩
          · rw [List.mem_singleton] at hz; subst hz; exact p3
        · have hb2 : ((lAsk (lAsk l x).1 y).2 != 0) = true := by simp [hz2]
          rw [hb2, if_pos rfl] at h0
          exact absurd h0 hz2
      · have hb : ((lAsk l x).2 != 0) = true := by simp [hz]
        rw [hb, if_pos rfl] at h0
        exact absurd h0 hz
  refine ⟨key.1, ?_⟩
  by_cases he : oLocks o w = []
  · rw [he]; rfl
  · have hq := key.2 he
    rw [← waits_queue T.ok h (T.zero h0)] at hq
    exact hold_served T.ok hq _ (fun x hx => ⟨(hm x hx).1, (hm x hx).2, key.1 x hx⟩)
end Go.Proofs.Ve

/- Plain laws of Hold: what is held is not free; who is alone. -/
set_option maxRecDepth 100000
set_option linter.all false
namespace Go.Proofs.Ve
open Go
theorem cm_lt {a b c : List UInt8} (h1 : cm a b < 0) (h2 : cm b c ≤ 0) : cm a c < 0 := by
  have h := cm_trans a b c (by omega) h2
  by_cases e : cm a c = 0
  · have := (cm_eq a c).1 e
    subst this
    have := cm_flip a b
    omega
  · omega
theorem point_less (k : List UInt8) : cm k (k ++ [0]) < 0 := by
  induction k with
  | nil => show (-1 : Int) < 0; omega
  | cons x k ih =>
    show cm (x :: k) (x :: (k ++ [0])) < 0
    rw [cm_cc, if_neg (by simp [u8]), if_neg (by simp [u8])]
    exact ih
theorem point_full (t : Int) (k : List UInt8) : sEmpty (pointS t k) = false := by
  unfold sEmpty pointS
  rw [cmpB_eq]
  have := point_less k
  have f := cm_flip k (k ++ [0])
  simp; omega
theorem meets_of {a : Span} {t : Int} {k : List UInt8} (h : sCovers a (pointS t k) = true) : a.t = t ∧ sMeets a (pointS t k) = true := by
  unfold sCovers at h
  rw [point_full, if_neg (by simp)] at h
  split at h
  · cases h
  · rename_i hn
    have hn : a.t = t ∧ cm a.lo k ≤ 0 := by
      rw [cmpB_eq] at hn
      simpa [pointS] using hn
    obtain ⟨h1, h2⟩ := hn
    have hp := point_less k
    have hin : ∀ k', cm k' k = 0 → sIn a a.t k' = true ∧ sIn (pointS t k) a.t k' = true := fun k' e => by
      obtain rfl := (cm_eq _ _).1 e
      unfold sIn
      rw [cmpB_eq, cmpB_eq, cmpB_eq, cmpB_eq]
      constructor
      · cases ho : a.op with
        | true => simp; exact h2
        | false =>
          rw [ho] at h
          have h3 : cm (k' ++ [0]) a.hi ≤ 0 := by
            rw [cmpB_eq] at h
            have h : (false || !false && decide (cm (k' ++ [0]) a.hi ≤ 0)) = true := h
            rw [Bool.false_or, Bool.not_false, Bool.true_and] at h
            exact of_decide_eq_true h
          have := cm_lt hp h3
          simp; exact ⟨h2, this⟩
      · simp only [pointS, h1, cm_self]
        have : decide (cm k' (k' ++ [0]) < 0) = true := decide_eq_true hp
        simp
        exact this
    refine ⟨h1, ?_⟩
    unfold sMeets
    dsimp only
    have fin : ∀ k', cm k' k = 0 → (!([a, pointS t k].any fun x => !sIn x a.t k')) = true := fun k' e => by
      obtain ⟨q1, q2⟩ := hin k' e
      simp [q1, q2]
    split
    · exact fin _ (cm_self k)
    · rename_i hlt
      rw [cmpB_eq] at hlt
      have : ¬ cm a.lo k < 0 := fun q => hlt (decide_eq_true q)
      exact fin _ (by omega)
theorem fits_ix : ∀ a ∈ ms, (mCovers a 3 = true ∨ mCovers a 5 = true) → mFits a 2 = false := by decide
theorem clash_point {h : Lock} {w you t m : Int} {k : List UInt8} (hm : m = 3 ∨ m = 5) (hs : lServes h ⟨w, false, pointS t k, m⟩ = true) (hy : you ≠ w) :
    lClash h ⟨you, true, ⟨t, [], [], false⟩, 2⟩ = true ∨ lClash h ⟨you, false, pointS t k, 5⟩ = true := by
  unfold lServes at hs
  split at hs
  · cases hs
  · rename_i hn
    have hn : h.owner = w ∧ h.span.t = t := by
      simp [pointS] at hn
      exact hn
    have ho : (h.owner == you) = false := by simp; rw [hn.1]; exact fun e => hy e.symm
    have ht : (h.span.t != t) = false := by simp [hn.2]
    split at hs
    · rename_i hw
      left
      have hmc : mCovers h.mode m = true := hs
      have h2 : mFits h.mode 2 = false := by
        refine fits_ix _ (mIs_mem (covers_is hmc).1) ?_
        rcases hm with rfl | rfl
        · exact .inl hmc
        · exact .inr hmc
      unfold lClash
      simp [ho, ht, hw, h2]
    · rename_i hw
      right
      simp only [Bool.and_eq_true] at hs
      obtain ⟨q1, q2⟩ := meets_of hs.1
      unfold lClash
      have hw : h.whole = false := by simpa using hw
      have ht' : (h.span.t != (pointS t k).t) = false := ht
      simp [ho, ht', hw, q2]
theorem not_free {a : Locks} {w you t m : Int} {key val : List UInt8} {g : Bool} (hm : m = 3 ∨ m = 5) (hs : a.held.any (fun h => lServes h ⟨w, false, pointS t key, m⟩) = true) (hy : you ≠ w) : lFree a you [⟨t, key, g, val⟩] = false := by
  rw [List.any_eq_true] at hs
  obtain ⟨h, hh, hs⟩ := hs
  have : ((needL you [⟨t, key, g, val⟩]).any fun x => a.held.any fun y => lClash y x) = true := by
    rw [List.any_eq_true]
    rcases clash_point hm hs hy with e | e
    · exact ⟨_, List.mem_cons_self .., List.any_eq_true.2 ⟨h, hh, e⟩⟩
    · exact ⟨_, List.mem_cons_of_mem _ (List.mem_cons_self ..), List.any_eq_true.2 ⟨h, hh, e⟩⟩
  unfold lFree
  rw [this]; simp
theorem asks_taken {o : Oper} {w : Int} (hc : oCheck o = true) (hk : o.kind = 2 ∨ o.kind = 1) : ∃ x m, (m = 3 ∨ m = 5) ∧ oLocks o w = [x, ⟨w, false, pointS o.t o.key, m⟩] := by
  have hp := point_full o.t o.key
  rcases hk with hk | hk
  · have ha : oAbout o = (pointS o.t o.key, 5) := by unfold oAbout; simp [hk]
    refine ⟨wholeL o w (mAbove 5), 5, .inr rfl, ?_⟩
    unfold oLocks
    rw [hc, ha]
    dsimp only
    rw [hp, if_neg (by simp [errI]), if_neg (by simp [hk]), if_neg (by simp)]
  · have ha : oAbout o = (pointS o.t o.key, 3) := by unfold oAbout; simp [hk]
    refine ⟨wholeL o w (mAbove 3), 3, .inl rfl, ?_⟩
    unfold oLocks
    rw [hc, ha]
    dsimp only
    rw [hp, if_neg (by simp [errI]), if_neg (by simp [hk]), if_neg (by simp)]
/-! ### alone -/
structure Alone (l : Locks) (w : Int) (n : Nat) : Prop where
  ok : Ok l
  queue : l.queue = []
  own : ∀ y ∈ l.held, y.owner = w
  len : l.held.length ≤ n
theorem alone_ask {l : Locks} {w : Int} {n : Nat} (h : Alone l w n) (hn : n < 40) {x : Lock} (hx : lMay x = true) (ho : x.owner = w) : (lAsk l x).2 = 0 ∧ Alone (lAsk l x).1 w (n + 1) := by
  have A := ask_told h.ok hx
  have hw : lWaits l x.owner = false := by
    cases hw : lWaits l x.owner with
    | false => rfl
    | true =>
      obtain ⟨_, y, hy, _⟩ := (waits_iff l x.owner).1 hw
      rw [h.queue] at hy; cases hy
  have hj := joined_ok h.ok hx
  have hlt := h.len
  have key : (lAsk l x).2 = 0 ∧ ((lAsk l x).1 = l ∨ (lAsk l x).1 = ⟨holdL l.held (lJoined l x), l.queue⟩) := by
    unfold lAsk
    rw [(check_iff l).2 h.ok, hx, hw]
    simp only [Bool.not_true, Bool.false_or, Bool.false_eq_true, if_false]
    split
    · exact ⟨rfl, .inl rfl⟩
    · have h40 : decide ((l.held.length : Int) + l.queue.length ≥ 40) = false := by rw [h.queue]; simp; omega
      rw [h40, ahead_all, h.queue]
      have : ((l.held ++ []).any fun z => lClash z (lJoined l x)) = false := by
        rw [List.any_eq_false]
        intro z hz hcl
        rw [List.append_nil] at hz
        have := clash_owner hcl
        rw [h.own z hz, hj.2.2.1, ho] at this
        exact this rfl
      rw [this]
      exact ⟨rfl, .inr rfl⟩
  refine ⟨key.1, A.ok, (A.zero key.1).1.trans h.queue, fun y hy => ?_, ?_⟩
  · rcases key.2 with e | e
    · rw [e] at hy; exact h.own y hy
    · rw [e] at hy
      rcases hold_mem hy with rfl | hy
      · exact hj.2.2.1.trans ho
      · exact h.own y hy
  · rcases key.2 with e | e
    · rw [e]; omega
    · rw [e]
      have := hold_len l.held (lJoined l x)
      show (holdL l.held (lJoined l x)).length ≤ n + 1
      omega
theorem alone_hold {w : Int} : ∀ (xs : List Lock) (l : Locks) (n : Nat), Alone l w n → n + xs.length ≤ 40 → (∀ x ∈ xs, lMay x = true ∧ x.owner = w) → (holdF l xs).2 = 0 ∧ Alone (holdF l xs).1 w (n + xs.length)
  | [], l, n, h, _, _ => ⟨rfl, h⟩
  | x :: xs, l, n, h, hn, hx => by
    simp only [List.length_cons] at hn ⊢
    obtain ⟨h1, h2⟩ := alone_ask h (by omega) (hx x (List.mem_cons_self ..)).1 (hx x (List.mem_cons_self ..)).2
    unfold holdF
    have hb : ((lAsk l x).2 != 0) = false := by simp [h1]
    rw [hb]
    have := alone_hold xs (lAsk l x).1 (n + 1) h2 (by omega) (fun y hy => hx y (List.mem_cons_of_mem _ hy))
    rw [show n + (xs.length + 1) = n + 1 + xs.length by omega]
    exact this
theorem alone_free {l : Locks} {w : Int} {n : Nat} (h : Alone l w n) (ws : List Wr) : lFree l w ws = true := by
  unfold lFree
  rw [(check_iff l).2 h.ok]
  have own : ∀ x ∈ needL w ws, x.owner = w := by
    induction ws with
    | nil => intro x hx; cases hx
    | cons y ws ih =>
      intro x hx
      rcases List.mem_cons.1 hx with rfl | hx
      · rfl
      · rcases List.mem_cons.1 hx with rfl | hx
        · rfl
        · exact ih x hx
  have : ((needL w ws).any fun x => l.held.any fun y => lClash y x) = false := by
    rw [List.any_eq_false]
    intro x hx hc
    obtain ⟨y, hy, hcl⟩ := List.any_eq_true.1 hc
    have := clash_owner hcl
    rw [h.own y hy, own x hx] at this
    exact this rfl
  rw [this]; rfl
theorem alone_nil (w : Int) : Alone ⟨[], []⟩ w 0 := ⟨ok_empty, rfl, (fun y hy => by cases hy), Nat.le_refl _⟩
end Go.Proofs.Ve

/- HandBreaks: its body tells true. -/
set_option maxRecDepth 100000
set_option maxHeartbeats 4000000
set_option linter.all false
namespace Go.Proofs.Ve
open Go
theorem c11 (l : Locks) (s : Nat → Int) (H : List (List Blk)) : CallEq X H 11 [pLocks l, pSt s] (.d (.bool true)) [] := by
  cases hf : few l with
  | false =>
    have hw := fun H => hf ▸ c14 l H
    refine callEq_of_body X_ok rfl Try.func11 rfl ?_
    conv => whnf
    repeat' (first
      | (refine And.intro (fun h_ => ?_) (fun h_ => ?_) <;> (conv => whnf))
      | (refine ⟨_, _, c37 _, (by first | exact True.intro | exact And.intro rfl flat_nil), ?_⟩; conv => whnf)
      | (refine ⟨_, _, hw _, (by first | exact True.intro | exact And.intro rfl flat_nil), ?_⟩; conv => whnf)
      | (intro z_ hz_; conv => whnf)
      | (refine ⟨[], rfl, ?_, True.intro⟩; (conv => whnf); (first | done | ((first | exact rfl | (exfalso; simp at h_; done)); done)))
      | fail)
    all_goals simp_all
  | true =>
    have f1 : ∀ H, CallEq X H 14 [pLocks l] (.d (.bool true)) [] := fun H => hf ▸ c14 l H
    have hs := few_small hf
    have B := brk_ok s l hs
    have d1 := fun H => c42 l s hs H
    have d2 := fun H => c42 (brk s 4 l []).1 s B.small H
    rw [brk_again s l hs] at d2
    generalize brk s 4 l [] = R at B d1 d2
    obtain ⟨a, g⟩ := R
    obtain ⟨hstuck, hlen, hwait, hgone, hsm⟩ := B
    dsimp only at hstuck hlen hwait hgone hsm d2
    have same : ∀ H, CallEq X H 27 [pLocks a, pLocks a] (.d (.bool true)) [] := fun H => by
      have := c27 a a (by have := hsm.1; omega) (by have := hsm.2.1; omega) H
      rwa [sameLs_self, sameLs_self] at this
    have hel := edgesL_len a
    have e1 := fun H => c33 a hsm.1 hsm.2.1 H
    have s1 := fun H => c35 (edgesL a) (by omega) H
    rw [hstuck] at s1
    unfold pBrk at d1 d2
    refine callEq_of_body X_ok rfl Try.func11 rfl ?_
    conv => whnf
    refine ⟨_, _, c37 _, True.intro, ?_⟩
    conv => whnf
    refine ⟨_, _, f1 _, True.intro, ?_⟩
    conv => whnf
    refine And.intro (fun h => absurd h (by decide)) (fun _ => ?_)
    conv => whnf
    refine ⟨_, _, d1 _, True.intro, ?_⟩
    conv => whnf
    refine ⟨_, _, d2 _, True.intro, ?_⟩
    conv => whnf
    refine ⟨_, _, same _, True.intro, ?_⟩
    conv => whnf
    refine loopV_of (fun i : Nat => ⟨[.any, .any, .ptr 0 0 0, .any, .any, .d (.bool true), .ptr 0 1 0, .d (encI g), .any, .d (encI []), .d (.bool true), .d (.int .i64 i), .any, .any, .any, .any, .any, .any, .any, .any, .any, .any, .any, .any, .any, .any, .any, .any, .any, .any, .any, .any, .any, .any, .any, .any, .any, .any, .any, .any, .any, .any, .any, .any, .any, .any, .any, .any, .any, .any, .any, .any, .any, .any, .any, .any, .any, .any, .any, .any, .any, .any, .any, .any, .any, .any, .any, .any, .any, .any, .any, .any, .any, .any, .any, .any, .any, .any, .any, .any, .any, .any, .any, .any, .any], [bLocks l, bLocks a]⟩)
      (fun i => i ≤ g.length) (fun i => g.length - i) 0 [0, 2] (Nat.zero_le _) ?_ ?_
    · refine And.intro rfl (And.intro ?_ ?_)
      all_goals (repeat' (first | exact True.intro | exact rfl | refine And.intro ?_ ?_))
    · intro i hi
      conv => whnf
      refine And.intro (fun h1 => ?_) (fun h1 => ?_)
      · conv => whnf
        have hi' : i < g.length := by simp at h1; omega
        obtain ⟨x, hx⟩ : ∃ x, g[i]? = some x := ⟨_, List.getElem?_eq_getElem hi'⟩
        have fx : (g.map fun x => [DV.int .i64 x])[i]? = some [.int .i64 x] := by simp [hx]
        have hxm := List.mem_of_getElem? hx
        have hw : ∀ H, CallEq X H 23 [pLocks l, .d (.int .i64 x)] (.d (.bool true)) [] := fun H => hwait x hxm ▸ c23 l x hs.1 hs.2.1 H
        have hgx := hgone x hxm
        refine ⟨by omega, _, fx, rfl, ?_⟩
        conv => whnf
        refine ⟨_, _, hw _, True.intro, ?_⟩
        conv => whnf
        refine And.intro (fun h => absurd h (by decide)) (fun _ => ?_)
        conv => whnf
        refine loopV_of (fun k : Nat => ⟨[.any, .any, .ptr 0 0 0, .any, .any, .d (.bool true), .ptr 0 1 0, .d (encI g), .any, .d (encI []), .d (.bool true), .d (.int .i64 i), .d (.int .i64 k), .any, .any, .any, .any, .any, .any, .any, .any, .any, .any, .any, .any, .any, .any, .any, .any, .any, .any, .any, .any, .any, .any, .any, .any, .any, .any, .any, .any, .any, .any, .any, .any, .any, .any, .any, .any, .any, .any, .any, .any, .any, .any, .any, .any, .any, .any, .any, .any, .any, .any, .any, .any, .any, .any, .any, .any, .any, .any, .any, .any, .any, .any, .any, .any, .any, .any, .any, .any, .any, .any, .any, .any], [bLocks l, bLocks a]⟩)
          (fun k => k ≤ a.held.length) (fun k => a.held.length - k) 0 [0, 1] (Nat.zero_le _) ?_ ?_
        · refine And.intro rfl (And.intro ?_ ?_)
          all_goals (repeat' (first | exact True.intro | exact rfl | refine And.intro ?_ ?_))
        · intro k hk
          conv => whnf
          refine And.intro (fun h2 => ?_) (fun h2 => ?_)
          · conv => whnf
            have hk' : k < a.held.length := by simp at h2; omega
            obtain ⟨y, hy⟩ : ∃ y, a.held[k]? = some y := ⟨_, List.getElem?_eq_getElem hk'⟩
            have fy : (a.held.map cLock)[k]? = some (cLock y) := by simp [hy]
            have hne : (y.owner == x) = false := by
              have := hgx y (List.mem_of_getElem? hy)
              simp [this]
            have hsz := hsm.1
            refine ⟨by omega, _, fy, rfl, ?_⟩
            conv => whnf
            refine ⟨by omega, _, fx, rfl, ?_⟩
            conv => whnf
            refine And.intro (fun h => absurd (h.symm.trans hne) (by decide)) (fun _ => ?_)
            conv => whnf
            intro z hz
            conv => whnf
            rw [wrap_small (by (first | omega | (dsimp only; omega) | (simp; done) | (simp; omega))) (by (first | omega | (dsimp only; omega) | (simp; done) | (simp; omega)))] at hz
            subst hz
            refine ⟨k + 1, [0, 1], by omega, by omega, And.intro rfl (And.intro ?_ ?_)⟩
            all_goals (repeat' (first | exact True.intro | exact rfl | refine And.intro ?_ ?_))
          · conv => whnf
            intro z hz
            conv => whnf
            rw [wrap_small (by (first | omega | (dsimp only; omega) | (simp; done) | (simp; omega))) (by (first | omega | (dsimp only; omega) | (simp; done) | (simp; omega)))] at hz
            subst hz
            refine ⟨i + 1, [0, 1], by omega, by omega, And.intro rfl (And.intro ?_ ?_)⟩
            all_goals (repeat' (first | exact True.intro | exact rfl | refine And.intro ?_ ?_))
      · conv => whnf
        refine And.intro (fun _ => ?_) (fun h => absurd h (by decide))
        conv => whnf
        refine And.intro (fun _ => ?_) (fun h => absurd h (by decide))
        conv => whnf
        refine And.intro (fun _ => ?_) (fun h => absurd h (by decide))
        conv => whnf
        refine And.intro (fun _ => ?_) (fun h => absurd h (by simp; omega))
        conv => whnf
        refine ⟨_, _, e1 _, True.intro, ?_⟩
        conv => whnf
        refine ⟨_, _, s1 _, True.intro, ?_⟩
        conv => whnf
        exact ⟨[], rfl, rfl, True.intro⟩
end Go.Proofs.Ve

/- HandHolds: its body tells true. -/
set_option maxRecDepth 100000
set_option maxHeartbeats 4000000
set_option linter.all false
namespace Go.Proofs.Ve
open Go
theorem small_iff {o : Oper} (h : oSmall o = true) : smallO o := by
  unfold oSmall at h
  simp only [Bool.and_eq_true, decide_eq_true_eq] at h
  exact ⟨by omega, by omega, by omega⟩
theorem rem4 {u z : Int} (hu : 0 ≤ u) (hz : z = u.tmod 4) : 0 ≤ z ∧ z < 4 := by
  rw [Int.tmod_eq_emod_of_nonneg hu] at hz; omega
theorem errI_ok {b : Bool} (h : (errI b == 0) = true) : b = true := by
  cases b with
  | true => rfl
  | false => cases h
theorem beq_not {a b : Int} (h : (!(a == b)) = false) : a = b := by simpa using h
theorem ne_of_beq {a b : Int} (h : (a == b) = false) : a ≠ b := by simpa using h
theorem c10 (l : Locks) (u : Int) (o : Oper) (v : Int) (hu : 0 ≤ u ∧ u < 256) (hv : 0 ≤ v ∧ v < 256) (H : List (List Blk)) : CallEq X H 10 [pLocks l, .d (.int .u8 u), pOper o, .d (.int .u8 v)] (.d (.bool true)) [] := by
  have h14 := fun H => c14 l H
  have h38 := fun H => c38 o H
  have h37 := fun H => c37 H
  cases hf : few l with
  | false =>
    rw [hf] at h14
    refine callEq_of_body X_ok rfl Try.func10 rfl ?_
    conv => whnf
    repeat' (first
      | (refine And.intro (fun h_ => ?_) (fun h_ => ?_) <;> (conv => whnf))
      | (refine ⟨_, _, h37 _, (by first | exact True.intro | exact And.intro rfl flat_nil), ?_⟩; conv => whnf)
      | (refine ⟨_, _, h14 _, (by first | exact True.intro | exact And.intro rfl flat_nil), ?_⟩; conv => whnf)
      | (intro z_ hz_; conv => whnf)
      | (refine ⟨[], rfl, ?_, True.intro⟩; (conv => whnf); (first | done | ((first | exact rfl | (exfalso; simp at h_; done)); done)))
      | fail)
    all_goals simp_all
  | true =>
    rw [hf] at h14
    have hs := few_small hf
    have h19 := fun H => c19 l hs.1 hs.2.1 H
    cases ho : oSmall o with
    | false =>
      rw [ho] at h38
      refine callEq_of_body X_ok rfl Try.func10 rfl ?_
      conv => whnf
      repeat' (first
        | (refine And.intro (fun h_ => ?_) (fun h_ => ?_) <;> (conv => whnf))
        | (refine ⟨_, _, h37 _, (by first | exact True.intro | exact And.intro rfl flat_nil), ?_⟩; conv => whnf)
        | (refine ⟨_, _, h14 _, (by first | exact True.intro | exact And.intro rfl flat_nil), ?_⟩; conv => whnf)
        | (refine ⟨_, _, h38 _, (by first | exact True.intro | exact And.intro rfl flat_nil), ?_⟩; conv => whnf)
        | (intro z_ hz_; conv => whnf)
        | (refine ⟨[], rfl, ?_, True.intro⟩; (conv => whnf); (first | done | ((first | exact rfl | (exfalso; simp at h_; done)); done)))
        | fail)
      all_goals simp_all
    | true =>
      rw [ho] at h38
      cases hc : lCheck l with
      | false =>
        rw [hc] at h19
        refine callEq_of_body X_ok rfl Try.func10 rfl ?_
        conv => whnf
        repeat' (first
          | (refine And.intro (fun h_ => ?_) (fun h_ => ?_) <;> (conv => whnf))
          | (refine ⟨_, _, h37 _, (by first | exact True.intro | exact And.intro rfl flat_nil), ?_⟩; conv => whnf)
          | (refine ⟨_, _, h14 _, (by first | exact True.intro | exact And.intro rfl flat_nil), ?_⟩; conv => whnf)
          | (refine ⟨_, _, h38 _, (by first | exact True.intro | exact And.intro rfl flat_nil), ?_⟩; conv => whnf)
          | (refine ⟨_, _, h19 _, (by first | exact True.intro | exact And.intro rfl flat_nil), ?_⟩; conv => whnf)
          | (intro z_ hz_; conv => whnf)
          | (refine ⟨[], rfl, ?_, True.intro⟩; (conv => whnf); (first | done | ((first | exact rfl | (exfalso; simp at h_; done)); done)))
          | fail)
        all_goals simp_all
      | true =>
        rw [hc] at h19
        have hO := small_iff ho
        refine callEq_of_body X_ok rfl Try.func10 rfl ?_
        conv => whnf
        refine ⟨_, _, h37 _, True.intro, ?_⟩
        conv => whnf
        refine ⟨_, _, h14 _, True.intro, ?_⟩
        conv => whnf
        refine And.intro (fun _ => ?_) (fun h => absurd h (by decide))
        conv => whnf
        refine ⟨_, _, h38 _, True.intro, ?_⟩
        conv => whnf
        refine And.intro (fun _ => ?_) (fun h => absurd h (by decide))
        conv => whnf
        refine ⟨_, _, h19 _, True.intro, ?_⟩
        conv => whnf
        refine And.intro (fun h => absurd h (by decide)) (fun _ => ?_)
        conv => whnf
        refine ⟨by decide, ?_⟩
        intro me hz
        have hz4 := rem4 hu.1 hz
        clear hz
        conv => whnf
        intro z hz
        conv => whnf
        rw [wrap_small (by omega) (by omega)] at hz
        subst z
        have hok := (check_iff l).1 hc
        have T := hold_told (oLocks o me) l hok (may_asks o hz4)
        have G := hold_again hok o hz4
        have d1 := fun H => s39 l me o hO hs H
        have d2 := fun H => s39 (holdF l (oLocks o me)).1 me o hO (ok_small T.ok) H
        have hfr : oCheck o = true → (o.kind = 2 ∨ o.kind = 1) → (holdF l (oLocks o me)).2 = 0 → ∀ you, you ≠ me → lFree (holdF l (oLocks o me)).1 you [⟨o.t, o.key, false, []⟩] = false := fun h1 h2 h3 you h4 => by
          obtain ⟨x, m, hm, e⟩ := asks_taken (w := me) h1 h2
          exact not_free hm ((G h3).1 _ (by rw [e]; simp)) h4
        have G2 := fun h => (G h).2
        clear G
        generalize hr : holdF l (oLocks o me) = r at T G2 d1 d2 hfr
        obtain ⟨a, e⟩ := r
        obtain ⟨aok, anum, awt, _⟩ := T
        dsimp only at aok anum awt G2 d2 hfr
        have asm := ok_small aok
        have w1 := fun H => c23 a me asm.1 asm.2.1 H
        have w2 := fun H => c23 l me hs.1 hs.2.1 H
        have ck : ∀ H, CallEq X H 19 [pLocks a] (.d (.bool true)) [] := fun H => (check_iff a).2 aok ▸ c19 a asm.1 asm.2.1 H
        have same : ∀ H, CallEq X H 27 [pLocks a, pLocks a] (.d (.bool true)) [] := fun H => by
          have := c27 a a (by have := asm.1; omega) (by have := asm.2.1; omega) H
          rwa [sameLs_self, sameLs_self] at this
        have c40' := fun H => c40 o H
        rw [ocheck_eq] at c40'
        have fr := fun you H => c41 a you [⟨o.t, o.key, false, []⟩] asm (by simp) (by intro x hx; rw [List.mem_singleton] at hx; subst hx; have := hO.1; show o.key.length ≤ _; omega) H
        unfold pHold at d1 d2
        dsimp only at d1
        cases hW1 : lWaits a me <;> cases hW2 : lWaits l me <;> rw [hW1, hW2] at awt <;> rw [hW1] at w1 <;> rw [hW2] at w2
        all_goals rcases anum with rfl | rfl | rfl | rfl
        all_goals first | (exfalso; revert awt; decide) | skip
        all_goals
          refine ⟨_, _, d1 _, True.intro, ?_⟩
          conv => whnf
          refine ⟨_, _, ck _, True.intro, ?_⟩
          conv => whnf
          repeat (first
            | (refine And.intro (fun _ => ?_) (fun h => absurd h (by decide)); conv => whnf)
            | (refine And.intro (fun h => absurd h (by decide)) (fun _ => ?_); conv => whnf)
            | (refine ⟨_, _, w1 _, True.intro, ?_⟩; conv => whnf)
            | (refine ⟨_, _, w2 _, True.intro, ?_⟩; conv => whnf)
            | (exact ⟨[], rfl, rfl, True.intro⟩))
        all_goals
          have g := G2 rfl
          rw [g] at d2
          dsimp only at d2
          refine ⟨_, _, d2 _, True.intro, ?_⟩
          conv => whnf
          refine ⟨_, _, same _, True.intro, ?_⟩
          conv => whnf
          refine ⟨_, _, c40' _, True.intro, ?_⟩
          conv => whnf
          clear d1 d2 g G2 w1 w2 ck same awt h14 h38 h19 h37
          repeat' (first
            | (refine ⟨(by decide : (4 : Int) ≠ 0), ?_⟩; conv => whnf)
            | (refine And.intro (fun _ => ?_) (fun h => absurd h (by decide)); conv => whnf)
            | (refine And.intro (fun h => absurd h (by decide)) (fun _ => ?_); conv => whnf)
            | (refine ⟨_, _, fr _ _, True.intro, ?_⟩; conv => whnf)
            | (refine And.intro (fun h_ => ?_) (fun h_ => ?_) <;> (conv => whnf))
            | (intro z_ hz_; conv => whnf)
            | (refine ⟨[], rfl, ?_, True.intro⟩
               first
                 | exact rfl
                 | exact congrArg (fun b => DV.bool (!b)) (hfr (errI_ok (by assumption)) (by first | exact .inl (eq_of_beq (by assumption)) | exact .inr (eq_of_beq (by assumption)) | exact .inr (beq_not (by assumption))) rfl _ (ne_of_beq (by assumption)))
                 | trace_state))
end Go.Proofs.Ve

/- From what a law's arguments read as to plain data; from a contract to the row. (Nothing of one seat: but for the parts that it imports.) -/
set_option linter.all false
namespace Go.Proofs.Ve
open Go Go.ChangeShapes Go.WideShapes Go.RowKit

/-- What a cell may hold. -/
inductive CT where
  | bool
  | int (k : IntKind)
  | str
  | sl (r : List CT)
inductive FitC : CT → DV → Prop
  | bool (b : Bool) : FitC .bool (.bool b)
  | int (k : IntKind) (n : Int) (h : (Lit.int k n).wf = true) : FitC (.int k) (.int k n)
  | str (s : ByteArray) (h : s.size ≤ maxLen) : FitC .str (.str s)
  | sl (r : List CT) (xs : List (List DV)) (hn : xs.length ≤ maxLen) (hs : ∀ x ∈ xs, x.length = r.length) (h : ∀ x ∈ xs, ∀ (j : Nat) c y, r[j]? = some c → x[j]? = some y → FitC c y) : FitC (.sl r) (.sl xs)
def FitR (r : List CT) (x : List DV) : Prop := x.length = r.length ∧ ∀ (j : Nat) c y, r[j]? = some c → x[j]? = some y → FitC c y
theorem FitR.nil : FitR [] [] := ⟨rfl, fun j c y h => by simp at h⟩
theorem FitR.cons {c : CT} {r : List CT} {x : List DV} (h : FitR (c :: r) x) : ∃ y x', x = y :: x' ∧ FitC c y ∧ FitR r x' := by
  obtain ⟨h1, h2⟩ := h
  match x, h1 with
  | y :: x', h1 => exact ⟨y, x', rfl, h2 0 c y rfl rfl, by simpa using h1, fun j c' y' hc hy => h2 (j + 1) c' y' (by simpa using hc) (by simpa using hy)⟩
theorem FitR.done {x : List DV} (h : FitR [] x) : x = [] := by
  obtain ⟨h1, _⟩ := h
  exact List.length_eq_zero_iff.1 (by simpa using h1)
theorem FitR.app {a b : List CT} {x y : List DV} (h : FitR a x) (k : FitR b y) : FitR (a ++ b) (x ++ y) := by
  refine ⟨by rw [List.length_append, List.length_append, h.1, k.1], fun j c u hc hu => ?_⟩
  by_cases hj : j < a.length
  · rw [List.getElem?_append_left hj] at hc
    rw [List.getElem?_append_left (by rw [h.1]; exact hj)] at hu
    exact h.2 j c u hc hu
  · rw [List.getElem?_append_right (by omega)] at hc
    rw [List.getElem?_append_right (by rw [h.1]; omega), h.1] at hu
    exact k.2 _ c u hc hu
theorem FitC.sl_inv {r : List CT} {x : DV} (h : FitC (.sl r) x) : ∃ xs, x = .sl xs ∧ xs.length ≤ maxLen ∧ ∀ y ∈ xs, FitR r y := by
  cases h with
  | sl _ xs hn hs h => exact ⟨xs, rfl, hn, fun y hy => ⟨hs y hy, h y hy⟩⟩
theorem FitC.bool_inv {x : DV} (h : FitC .bool x) : ∃ b, x = .bool b := by cases h; exact ⟨_, rfl⟩
theorem FitC.int_inv {k : IntKind} {x : DV} (h : FitC (.int k) x) : ∃ n, x = .int k n ∧ (Lit.int k n).wf = true := by cases h with | int _ n h => exact ⟨n, rfl, h⟩
theorem FitC.str_inv {x : DV} (h : FitC .str x) : ∃ s, x = .str s ∧ s.size ≤ maxLen := by cases h with | str s h => exact ⟨s, rfl, h⟩

/-- The cells of a type, where they are plain. -/
noncomputable def layOff (one : TypeId → Option (List CT)) (size : TypeId → Nat) (l : List (Nat × TypeId)) : Nat → Option (List CT) :=
  List.rec (fun _ => some []) (fun p _ ih off => if p.1 = off then (one p.2).bind fun r => if r.length = size p.2 then (ih (off + size p.2)).map fun rs => r ++ rs else none else none) l
noncomputable def layB (P : Program) (fuel : Nat) : TypeId → Option (List CT) :=
  Nat.rec (fun _ => none) (fun _ ih t =>
    match P.underlying t with
    | some .bool => some [.bool]
    | some (.int k) => some [.int k]
    | some .string => some [.str]
    | some (.slice e) => (ih e).bind fun r => if r.length = P.cellsOf e then some [.sl r] else none
    | some (.struct fs) => (layOff ih P.cellsOf (fs.toList.map fun f => (f.offset, f.type)) 0).bind fun r => if r.length = P.cellsOf t then some r else none
    | some (.array n e) => (layOff ih P.cellsOf ((List.range n).map fun i => (i * P.cellsOf e, e)) 0).bind fun r => if r.length = P.cellsOf t then some r else none
    | _ => none) fuel

section
variable {H : Type} {enc : TypeId × Value → H} {P : Program} {w : World} {spare : Nat → Bool} {held : Bool}
def okW (w : World) (k : Nat) : Prop := k < w.heap.size
def Reads (w : World) (r : List CT) (cs : List Value) (ds : List DV) : Prop :=
  cs.length = r.length ∧ FitR r ds ∧ ∀ (j : Nat) y u, ds[j]? = some y → cs[j]? = some u → RD w (okW w) y u
theorem reads_one {c : CT} {y : DV} {u : Value} (h : FitC c y) (k : RD w (okW w) y u) : Reads w [c] [u] [y] := by
  refine ⟨rfl, ⟨rfl, fun j c' y' hc hy => ?_⟩, fun j y' u' hy hu => ?_⟩
  · cases j with
    | zero => simp at hc hy; subst hc; subst hy; exact h
    | succ j => simp at hc
  · cases j with
    | zero => simp at hu hy; subst hu; subst hy; exact k
    | succ j => simp at hy
theorem cell_lt {a : Addr} {v : Value} (h : w.cell? a = some v) : a.block < w.heap.size := by
  apply Classical.byContradiction
  intro hn
  have : w.heap[a.block]? = none := by rw [Array.getElem?_eq_none_iff]; omega
  simp [World.cell?, this] at h
theorem off_sound {fuel : Nat} {one : TypeId → Option (List CT)} (hone : ∀ t r, one t = some r → ∀ fuel cs x, DataW.trod enc P w 0 spare held fuel t cs = some x → ∃ ds, Reads w r cs ds) (cs : List Value) :
    ∀ (l : List (Nat × TypeId)) (off : Nat) (r : List CT), layOff one P.cellsOf l off = some r → off + r.length ≤ cs.length →
      (∀ p ∈ l, ∃ n y, DataW.trod enc P w 0 spare held n p.2 ((cs.drop p.1).take (P.cellsOf p.2)) = some y) → ∃ ds, Reads w r ((cs.drop off).take r.length) ds := by
  intro l
  induction l with
  | nil =>
    intro off r h hle _
    change some [] = some r at h
    cases h
    exact ⟨[], by simp, FitR.nil, fun j y u hy => by simp at hy⟩
  | cons p l ih =>
    intro off r h hle hx
    change (if p.1 = off then (one p.2).bind fun r => if r.length = P.cellsOf p.2 then (layOff one P.cellsOf l (off + P.cellsOf p.2)).map fun rs => r ++ rs else none else none) = some r at h
    split at h
    · next hoff =>
      obtain ⟨r1, h1, h2⟩ := Option.bind_eq_some_iff.1 h
      split at h2
      · next hlen =>
        obtain ⟨rs, h3, rfl⟩ := Option.map_eq_some_iff.1 h2
        rw [List.length_append] at hle ⊢
        obtain ⟨n, y, hy⟩ := hx p (List.mem_cons_self ..)
        obtain ⟨d1, e1, f1, g1⟩ := hone p.2 r1 h1 n _ y hy
        obtain ⟨d2, e2, f2, g2⟩ := ih (off + P.cellsOf p.2) rs h3 (by omega) (fun q hq => hx q (List.mem_cons_of_mem _ hq))
        rw [hoff] at g1 e1
        refine ⟨d1 ++ d2, by rw [List.length_take, List.length_drop, List.length_append]; omega, f1.app f2, fun j u v hu hv => ?_⟩
        by_cases hj : j < r1.length
        · rw [List.getElem?_append_left (by rw [f1.1]; exact hj)] at hu
          refine g1 j u v hu ?_
          rw [List.getElem?_take, if_pos (by omega)] at hv ⊢
          exact hv
        · rw [List.getElem?_append_right (by rw [f1.1]; omega), f1.1] at hu
          refine g2 (j - r1.length) u v hu ?_
          rw [List.getElem?_take] at hv ⊢
          split at hv
          · next hjj =>
            rw [if_pos (by omega)]
            rw [List.getElem?_drop] at hv ⊢
            rw [← hv]; congr 1; omega
          · cases hv
      · cases h2
    · cases h
theorem trod_arr {t e : TypeId} {n fuel : Nat} {cs : List Value} {x : DataW H × List MemPlace} (ht : P.underlying t = some (.array n e)) (h : DataW.trod enc P w 0 spare held fuel t cs = some x) :
    ∃ m, cs.length = P.cellsOf t ∧ ∀ i, i < n → ∃ y, DataW.trod enc P w 0 spare held m e ((cs.drop (i * P.cellsOf e)).take (P.cellsOf e)) = some y := by
  cases fuel with
  | zero => simp [DataW.trod] at h
  | succ m =>
    unfold DataW.trod at h
    rw [ht] at h
    split at h <;> simp_all
    obtain ⟨hcl, xs, hp, hd⟩ := h
    refine ⟨m, fun i hi => ?_⟩
    have hg := mapM_some_get hp i i (by simp [hi])
    have hlt : i < xs.length := by have := mapM_some_length hp; simp at this; omega
    rw [List.getElem?_eq_getElem hlt] at hg
    obtain ⟨a, b, hab⟩ : ∃ a b, xs[i] = (a, b) := ⟨_, _, rfl⟩
    exact ⟨a, b, hg.trans (by rw [hab])⟩
theorem lay_sound : ∀ (f : Nat) (t : TypeId) (r : List CT), layB P f t = some r → ∀ fuel cs x, DataW.trod enc P w 0 spare held fuel t cs = some x → ∃ ds, Reads w r cs ds := by
  intro f
  induction f with
  | zero => intro t r h; cases h
  | succ f ih =>
    intro t r h fuel cs x hx
    change (match P.underlying t with
      | some .bool => some [.bool]
      | some (.int k) => some [.int k]
      | some .string => some [.str]
      | some (.slice e) => (layB P f e).bind fun r => if r.length = P.cellsOf e then some [.sl r] else none
      | some (.struct fs) => (layOff (layB P f) P.cellsOf (fs.toList.map fun f => (f.offset, f.type)) 0).bind fun r => if r.length = P.cellsOf t then some r else none
      | some (.array n e) => (layOff (layB P f) P.cellsOf ((List.range n).map fun i => (i * P.cellsOf e, e)) 0).bind fun r => if r.length = P.cellsOf t then some r else none
      | _ => none) = some r at h
    split at h
    · next hu =>
      cases h
      obtain ⟨b, rfl, _⟩ := DataW.trod_bool hu hx
      exact ⟨_, reads_one (.bool b) (.bool b)⟩
    · next k hu =>
      cases h
      obtain ⟨n, rfl, _, hw⟩ := DataW.trod_int hu hx
      exact ⟨_, reads_one (.int k n hw) (.int k n)⟩
    · next hu =>
      cases h
      obtain ⟨s, rfl, _, hs⟩ := DataW.trod_string hu hx
      exact ⟨_, reads_one (.str s hs) (.str s)⟩
    · next e hu =>
      obtain ⟨r1, h1, h2⟩ := Option.bind_eq_some_iff.1 h
      split at h2
      · next hlen =>
        cases h2
        rcases Deep.open_slice hu hx with ⟨rfl, _⟩ | ⟨a, len, cap, m, n, D, Pl, rfl, hb, hl, hm, hmm, rfl, hel⟩
        · refine ⟨_, reads_one (.sl r1 [] (Nat.zero_le _) (fun x hx => by cases hx) (fun x hx => by cases hx)) (.sl r1.length [] none 0 0 ⟨0, 0, none⟩ (fun _ => .nilFunc) rfl (Nat.le_refl _) (by omega) (fun h => by omega) (fun x hx => by cases hx) (fun i x j y hx => by simp at hx) (fun i x j y hx => by simp at hx))⟩
        · have hlm : len ≤ m := by rw [hmm]; split <;> omega
          have hall : ∀ i, i < len → ∃ d : List DV, FitR r1 d ∧ ∀ (j : Nat) y, d[j]? = some y → ∃ u, w.cell? (a.add (i * r1.length + j)) = some u ∧ RD w (okW w) y u := by
            intro i hi
            obtain ⟨cs', hc, ht⟩ := hel i (by omega)
            obtain ⟨d, e1, e2, e3⟩ := ih e r1 h1 n cs' _ ht
            obtain ⟨_, hlen', hcell⟩ := World.cells?_some hc
            refine ⟨d, e2, fun j y hy => ?_⟩
            have hj : j < cs'.length := by rw [e1, ← e2.1]; exact (List.getElem?_eq_some_iff.1 hy).1
            have := hcell j (by omega)
            rw [Deep.add_add, List.getElem?_eq_getElem hj] at this
            exact ⟨cs'[j], by rw [hlen]; exact this, e3 j y _ hy (List.getElem?_eq_getElem hj)⟩
          obtain ⟨d, hd⟩ := Deep.choose_lt hall
          have mem : ∀ x ∈ (List.range len).map d, ∃ i, i < len ∧ x = d i := fun x hx => by
            obtain ⟨i, hi, rfl⟩ := List.mem_map.1 hx
            exact ⟨i, List.mem_range.1 hi, rfl⟩
          have at_ : ∀ (i : Nat) x, ((List.range len).map d)[i]? = some x → i < len ∧ x = d i := fun i x hx => by
            rw [List.getElem?_map] at hx
            obtain ⟨k, hk, rfl⟩ := Option.map_eq_some_iff.1 hx
            obtain ⟨hlt, hk⟩ := List.getElem?_eq_some_iff.1 hk
            simp at hk hlt
            subst hk
            exact ⟨hlt, rfl⟩
          refine ⟨_, reads_one (.sl r1 ((List.range len).map d) (by simp; omega) (fun x hx => ?_) (fun x hx => ?_)) (.sl r1.length ((List.range len).map d) (some a) len cap a (fun k => (w.cell? (a.add k)).getD .nilFunc) (by simp) hl (by unfold maxLen at hm; omega) (fun _ => rfl) (fun x hx => ?_) (fun i x j y hx hy => ?_) (fun i x j y hx hy => ?_))⟩
          · obtain ⟨i, hi, rfl⟩ := mem x hx; exact (hd i hi).1.1
          · obtain ⟨i, hi, rfl⟩ := mem x hx; exact (hd i hi).1.2
          · obtain ⟨i, hi, rfl⟩ := mem x hx; exact (hd i hi).1.1
          · obtain ⟨hi, rfl⟩ := at_ i x hx
            obtain ⟨u, hu1, hu2⟩ := (hd i hi).2 j y hy
            refine ⟨?_, by rw [hu1]; rfl⟩
            have := cell_lt hu1
            rw [add_block] at this
            exact this
          · obtain ⟨hi, rfl⟩ := at_ i x hx
            obtain ⟨u, hu1, hu2⟩ := (hd i hi).2 j y hy
            show RD w (okW w) y ((w.cell? (a.add (i * r1.length + j))).getD .nilFunc)
            rw [hu1]; exact hu2
      · cases h2
    · next fs hu =>
      obtain ⟨r1, h1, h2⟩ := Option.bind_eq_some_iff.1 h
      split at h2
      · next hlen =>
        cases h2
        obtain ⟨xs, n, _, _, hcl, hxl, hf⟩ := DataW.trod_struct hu hx
        have := off_sound (fuel := 0) ih cs _ 0 r h1 (by omega) (fun p hp => by
          obtain ⟨g, hg, rfl⟩ := List.mem_map.1 hp
          obtain ⟨i, hi⟩ := List.mem_iff_getElem?.1 hg
          have hi' : fs[i]? = some g := by simpa using hi
          have := hf i g hi'
          have hlt : i < xs.length := by rw [hxl]; exact (Array.getElem?_eq_some_iff.1 hi').1
          rw [List.getElem?_eq_getElem hlt] at this
          exact ⟨n, _, this⟩)
        rw [List.drop_zero, List.take_of_length_le (by omega)] at this
        exact this
      · cases h2
    · next n e hu =>
      obtain ⟨r1, h1, h2⟩ := Option.bind_eq_some_iff.1 h
      split at h2
      · next hlen =>
        cases h2
        obtain ⟨m, hcl, hf⟩ := trod_arr hu hx
        have := off_sound (fuel := 0) ih cs _ 0 r h1 (by omega) (fun p hp' => by
          obtain ⟨i, hi, rfl⟩ := List.mem_map.1 hp'
          exact ⟨m, hf i (List.mem_range.1 hi)⟩)
        rw [List.drop_zero, List.take_of_length_le (by omega)] at this
        exact this
      · cases h2
    · cases h
/-- What a parameter is to the walker. -/
def aggB (P : Program) (t : TypeId) : Bool := match P.underlying t with | some (.struct _) => true | some (.array _ _) => true | _ => false
def pOf (agg : Bool) (ds : List DV) : PV := match agg with | true => .agg (ds.map .d) | false => (match ds with | [y] => .d y | _ => .any)
def m0 (w : World) : M := ⟨w, fun _ _ => none, fun _ => False⟩
theorem m0_ok (w : World) (k : Nat) (h : okW w k) : (m0 w).ok k := ⟨h, fun h => h⟩
theorem RD.m0 {x : DV} {v : Value} (h : RD w (okW w) x v) : RD (m0 w).w (m0 w).ok x v := h.mono fun k hk => ⟨m0_ok w k hk, rfl⟩
theorem arg_reads {t : TypeId} {v : Value} {d : DataW H} {ps : List MemPlace} (f : Nat) {r : List CT} (hr : layB P f t = some r) (hval : Value.okWide P w .any 0 t v) (hd : DataW.Trod enc P w 0 spare held t v d ps) :
    ∃ ds, FitR r ds ∧ RP (m0 w) (pOf (aggB P t) ds) v := by
  obtain ⟨fuel, hf⟩ := hd
  obtain ⟨ds, h1, h2, h3⟩ := lay_sound f t r hr fuel _ _ hf
  refine ⟨ds, h2, ?_⟩
  have single : ∀ v : Value, v.cells = #[v] → Reads w r v.cells.toList ds → RP (m0 w) (pOf false ds) v := fun v hv hd => by
    obtain ⟨h1, h2, h3⟩ := hd
    rw [hv] at h1 h3
    have hl : ds.length = 1 := by rw [h2.1, ← h1]; rfl
    match ds, hl with
    | [y], _ => exact .d y v (h3 0 y v rfl rfl).m0
  cases f with
  | zero => cases hr
  | succ f =>
    change (match P.underlying t with
      | some .bool => some [.bool]
      | some (.int k) => some [.int k]
      | some .string => some [.str]
      | some (.slice e) => (layB P f e).bind fun r => if r.length = P.cellsOf e then some [.sl r] else none
      | some (.struct fs) => (layOff (layB P f) P.cellsOf (fs.toList.map fun f => (f.offset, f.type)) 0).bind fun r => if r.length = P.cellsOf t then some r else none
      | some (.array n e) => (layOff (layB P f) P.cellsOf ((List.range n).map fun i => (i * P.cellsOf e, e)) 0).bind fun r => if r.length = P.cellsOf t then some r else none
      | _ => none) = some r at hr
    unfold aggB
    have agg : ∀ cs : Array Value, v = .agg cs → RP (m0 w) (pOf true ds) v := fun cs hv => by
      subst hv
      refine .agg _ _ ?_ fun j p u hp hu => ?_
      · rw [List.length_map, h2.1, ← h1]; simp [Value.cells]
      · rw [List.getElem?_map] at hp
        obtain ⟨y, hy, rfl⟩ := Option.map_eq_some_iff.1 hp
        exact .d y u (h3 j y u hy (by simpa [Value.cells] using hu)).m0
    split at hr
    · next hu => rw [hu]; obtain ⟨b, rfl⟩ := okWide_bool hu hval; exact single _ rfl ⟨h1, h2, h3⟩
    · next k hu => rw [hu]; obtain ⟨n, rfl⟩ := okWide_int hu hval; exact single _ rfl ⟨h1, h2, h3⟩
    · next hu => rw [hu]; obtain ⟨s, rfl⟩ := okWide_string hu hval; exact single _ rfl ⟨h1, h2, h3⟩
    · next e hu => rw [hu]; obtain ⟨a, l, c, rfl⟩ := okWide_slice hu hval; exact single _ rfl ⟨h1, h2, h3⟩
    · next fs hu => rw [hu]; obtain ⟨cs, hv, _⟩ := okWide_struct hu hval; exact agg cs hv
    · next n e hu =>
      rw [hu]
      simp only [Value.okWide, hu] at hval
      obtain ⟨cs, hv, _⟩ := hval
      exact agg cs hv
    · cases hr
end
/-- Into the row. -/
theorem m0_inv (w : World) : Inv (m0 w) [] [] := by
  have none_ : ∀ l i b, getB [] [] l i = some b → False := fun l i b h => by cases l <;> simp [getB] at h
  exact ⟨fun l i b h => (none_ l i b h).elim, fun l i b l' i' b' v v' k h => (none_ l i b h).elim, fun l i b v k h => (none_ l i b h).elim, fun k hk => hk.elim⟩
theorem CallEq.calls {C : Cx} {f : Nat} {args : List PV} {b : Bool} {vs : Array Value} {w : World} (h : CallEq C [] f args (.d (.bool b)) []) (hn : args.length = vs.size) (ha : ∀ (j : Nat) p v, args[j]? = some p → vs[j]? = some v → RP (m0 w) p v) :
    Calls C.P f vs w fun e w' => e = .returned (.bool b) ∧ Below w.heap.size w w' := by
  unfold CallEq at h
  refine (h (m0 w) vs (m0_inv w) (fun _ => rfl) hn ha).mono fun e w' ⟨v, m', he, hw, hg, _, _, _, hr⟩ => ?_
  subst hw
  have hv : v = .bool b := by
    cases hr with
    | d x v hx => cases hx; rfl
  exact ⟨by rw [he, hv], hg.os, hg.tape, hg.output, hg.size, hg.heap⟩
end Go.Proofs.Ve

/- The seat's types, as plain data. -/
set_option maxRecDepth 100000
set_option linter.all false
namespace Go.Proofs.Ve
open Go
theorem all_map {α β : Type} {f : α → β} : ∀ (xs : List β), (∀ y ∈ xs, ∃ a, y = f a) → ∃ l : List α, xs = l.map f
  | [], _ => ⟨[], rfl⟩
  | y :: ys, h => by
    obtain ⟨a, rfl⟩ := h y (List.mem_cons_self ..)
    obtain ⟨l, rfl⟩ := all_map ys (fun z hz => h z (List.mem_cons_of_mem _ hz))
    exact ⟨a :: l, rfl⟩
theorem fit_bytes {y : DV} (h : FitC (.sl [.int .u8]) y) : ∃ b, y = encB b := by
  obtain ⟨xs, rfl, _, h2⟩ := h.sl_inv
  obtain ⟨l, rfl⟩ := all_map (f := fun x : UInt8 => [DV.int .u8 x.toNat]) xs (fun z hz => by
    obtain ⟨u, z', rfl, hu, hz'⟩ := (h2 z hz).cons
    cases hz'.done
    obtain ⟨n, rfl, hn⟩ := hu.int_inv
    simp only [Lit.wf, Bool.and_eq_true, decide_eq_true_eq] at hn
    have hmin : IntKind.u8.min = 0 := by decide
    have hmax : IntKind.u8.max = 255 := by decide
    rw [hmin, hmax] at hn
    refine ⟨UInt8.ofNat n.toNat, ?_⟩
    have : ((UInt8.ofNat n.toNat).toNat : Int) = n := by rw [UInt8.toNat_ofNat']; omega
    rw [this])
  exact ⟨l, rfl⟩
def ctLock : List CT := [.int .i64, .bool, .int .i64, .sl [.int .u8], .sl [.int .u8], .bool, .int .i64]
theorem fit_lock {ds : List DV} (h : FitR ctLock ds) : ∃ x : Lock, ds = cLock x := by
  obtain ⟨_, _, rfl, h1, h⟩ := h.cons
  obtain ⟨_, _, rfl, h2, h⟩ := h.cons
  obtain ⟨_, _, rfl, h3, h⟩ := h.cons
  obtain ⟨_, _, rfl, h4, h⟩ := h.cons
  obtain ⟨_, _, rfl, h5, h⟩ := h.cons
  obtain ⟨_, _, rfl, h6, h⟩ := h.cons
  obtain ⟨_, _, rfl, h7, h⟩ := h.cons
  cases h.done
  obtain ⟨a, rfl, _⟩ := h1.int_inv
  obtain ⟨b, rfl⟩ := h2.bool_inv
  obtain ⟨c, rfl, _⟩ := h3.int_inv
  obtain ⟨d, rfl⟩ := fit_bytes h4
  obtain ⟨e, rfl⟩ := fit_bytes h5
  obtain ⟨f, rfl⟩ := h6.bool_inv
  obtain ⟨g, rfl, _⟩ := h7.int_inv
  exact ⟨⟨a, b, ⟨c, d, e, f⟩, g⟩, rfl⟩
theorem fit_list {y : DV} (h : FitC (.sl ctLock) y) : ∃ l : List Lock, y = encLocks l := by
  obtain ⟨xs, rfl, _, h2⟩ := h.sl_inv
  obtain ⟨l, rfl⟩ := all_map (f := cLock) xs (fun z hz => fit_lock (h2 z hz))
  exact ⟨l, rfl⟩
def ctLocks : List CT := [.sl ctLock, .sl ctLock]
theorem fit_locks {ds : List DV} (h : FitR ctLocks ds) : ∃ l : Locks, pOf true ds = pLocks l := by
  obtain ⟨_, _, rfl, h1, h⟩ := h.cons
  obtain ⟨_, _, rfl, h2, h⟩ := h.cons
  cases h.done
  obtain ⟨a, rfl⟩ := fit_list h1
  obtain ⟨b, rfl⟩ := fit_list h2
  exact ⟨⟨a, b⟩, rfl⟩
theorem fit_plock {ds : List DV} (h : FitR ctLock ds) : ∃ x : Lock, pOf true ds = pLock x := by
  obtain ⟨x, rfl⟩ := fit_lock h
  exact ⟨x, rfl⟩
theorem fit_int {k : IntKind} {ds : List DV} (h : FitR [.int k] ds) : ∃ n, pOf false ds = .d (.int k n) ∧ (Lit.int k n).wf = true := by
  obtain ⟨_, _, rfl, h1, h⟩ := h.cons
  cases h.done
  obtain ⟨a, rfl, hw⟩ := h1.int_inv
  exact ⟨a, rfl, hw⟩
end Go.Proofs.Ve

/- The seat's types, as plain data: operations. -/
set_option maxRecDepth 100000
set_option linter.all false
namespace Go.Proofs.Ve
open Go
def ctOp : List CT := [.int .i64, .int .i64, .sl [.int .u8], .sl [.int .u8], .bool, .sl [.int .u8], .int .i64]
def encOps (l : List Oper) : DV := .sl (l.map cOper)
theorem fit_oper {ds : List DV} (h : FitR ctOp ds) : ∃ o : Oper, ds = cOper o := by
  obtain ⟨_, _, rfl, h1, h⟩ := h.cons
  obtain ⟨_, _, rfl, h2, h⟩ := h.cons
  obtain ⟨_, _, rfl, h3, h⟩ := h.cons
  obtain ⟨_, _, rfl, h4, h⟩ := h.cons
  obtain ⟨_, _, rfl, h5, h⟩ := h.cons
  obtain ⟨_, _, rfl, h6, h⟩ := h.cons
  obtain ⟨_, _, rfl, h7, h⟩ := h.cons
  cases h.done
  obtain ⟨a, rfl, _⟩ := h1.int_inv
  obtain ⟨b, rfl, _⟩ := h2.int_inv
  obtain ⟨c, rfl⟩ := fit_bytes h3
  obtain ⟨d, rfl⟩ := fit_bytes h4
  obtain ⟨e, rfl⟩ := h5.bool_inv
  obtain ⟨f, rfl⟩ := fit_bytes h6
  obtain ⟨g, rfl, _⟩ := h7.int_inv
  exact ⟨⟨a, b, c, d, e, f, g⟩, rfl⟩
theorem fit_poper {ds : List DV} (h : FitR ctOp ds) : ∃ o : Oper, pOf true ds = pOper o := by
  obtain ⟨o, rfl⟩ := fit_oper h
  exact ⟨o, rfl⟩
theorem fit_opers {ds : List DV} (h : FitR [.sl ctOp] ds) : ∃ l : List Oper, pOf false ds = .d (encOps l) := by
  obtain ⟨_, _, rfl, h1, h⟩ := h.cons
  cases h.done
  obtain ⟨xs, rfl, _, h2⟩ := h1.sl_inv
  obtain ⟨l, rfl⟩ := all_map (f := cOper) xs (fun z hz => fit_oper (h2 z hz))
  exact ⟨l, rfl⟩
theorem wf_u8 {n : Int} (h : (Lit.int .u8 n).wf = true) : 0 ≤ n ∧ n < 256 := by
  have hmin : IntKind.u8.min = 0 := by decide
  have hmax : IntKind.u8.max = 255 := by decide
  simp only [Lit.wf, hmin, hmax] at h
  simp at h; omega
end Go.Proofs.Ve

/- HandAlone: its body tells true. -/
set_option maxRecDepth 100000
set_option maxHeartbeats 4000000
set_option linter.all false
namespace Go.Proofs.Ve
open Go
theorem c12 (l : List Oper) (u : Int) (hu : 0 ≤ u ∧ u < 256) (H : List (List Blk)) : CallEq X H 12 [.d (encOps l), .d (.int .u8 u)] (.d (.bool true)) [] := by
  refine callEq_of_body X_ok rfl Try.func12 rfl ?_
  conv => whnf
  refine ⟨_, _, c37 _, True.intro, ?_⟩
  conv => whnf
  refine ⟨by decide, ?_⟩
  intro me hz
  have hz4 := rem4 hu.1 hz
  clear hz
  conv => whnf
  intro z hz
  conv => whnf
  rw [wrap_small (by omega) (by omega)] at hz
  subst z
  refine loopV_of (fun i : Nat × Locks => ⟨[.d (encOps l), .any, .any, .any, .any, .d (.bool true), .d (.int .i64 me), .ptr 0 0 0, .d (.int .i64 i.1), .any, .any, .any, .any, .any, .any, .any, .any, .any, .any, .any, .any, .any, .any, .any, .any, .any, .any, .any, .any, .any, .any, .any, .any, .any, .any, .any, .any, .any, .any, .any, .any, .any, .any, .any, .any, .any, .any, .any, .any, .any, .any, .any, .any, .any, .any, .any, .any, .any, .any, .any, .any, .any, .any, .any, .any, .any, .any, .any, .any, .any, .any, .any, .any, .any, .any, .any, .any, .any, .any, .any, .any, .any, .any, .any, .any, .any, .any, .any, .any, .any, .any, .any, .any, .any, .any, .any, .any, .any], [bLocks i.2]⟩)
    (fun i => i.1 ≤ l.length ∧ i.1 ≤ 15 ∧ Alone i.2 me (2 * i.1)) (fun i => l.length - i.1) (0, ⟨[], []⟩) [0] ⟨Nat.zero_le _, Nat.zero_le _, alone_nil me⟩ ?_ ?_
  · refine And.intro rfl (And.intro ?_ ?_)
    all_goals (repeat' (first | exact True.intro | exact rfl | refine And.intro ?_ ?_))
  · rintro ⟨i, k⟩ ⟨hi, hi15, hA⟩
    dsimp only at hi hi15 hA
    conv => whnf
    have asm := ok_small hA.ok
    have ck : ∀ H, CallEq X H 19 [pLocks k] (.d (.bool true)) [] := fun H => (check_iff k).2 hA.ok ▸ c19 k asm.1 asm.2.1 H
    refine And.intro (fun h1 => ?_) (fun h1 => ?_)
    · conv => whnf
      have hi' : i < l.length := by simpa using h1
      refine And.intro (fun h2 => ?_) (fun h2 => ?_)
      · conv => whnf
        have hi2 : i < 15 := by simp at h2; omega
        obtain ⟨o, hx⟩ : ∃ o, l[i]? = some o := ⟨_, List.getElem?_eq_getElem hi'⟩
        have fx : (l.map cOper)[i]? = some (cOper o) := by simp [hx]
        have h38 := fun H => c38 o H
        refine ⟨by omega, cOper o, fx, rfl, ?_⟩
        conv => whnf
        cases ho : oSmall o with
        | false =>
          rw [ho] at h38
          refine ⟨_, _, h38 _, True.intro, ?_⟩
          conv => whnf
          refine And.intro (fun _ => ?_) (fun h => absurd h (by decide))
          conv => whnf
          exact ⟨[], rfl, rfl, True.intro⟩
        | true =>
          rw [ho] at h38
          have hO := small_iff ho
          obtain ⟨e0, A2⟩ := alone_hold (oLocks o me) k (2 * i) hA (by have := oLocks_len o me; omega) (may_asks o hz4)
          have A3 : Alone (holdF k (oLocks o me)).1 me (2 * (i + 1)) := ⟨A2.ok, A2.queue, A2.own, by have := A2.len; have := oLocks_len o me; omega⟩
          have G := hold_again hA.ok o hz4 e0
          have d1 := fun H => s39 k me o hO asm H
          have hfr : oCheck o = true → o.kind = 2 → ∀ you, you ≠ me → lFree (holdF k (oLocks o me)).1 you [⟨o.t, o.key, false, []⟩] = false := fun h1 h2 you h4 => by
            obtain ⟨x, m, hm, e⟩ := asks_taken (w := me) h1 (.inl h2)
            exact not_free hm (G.1 _ (by rw [e]; simp)) h4
          have hown := alone_free A2 [⟨o.t, o.key, false, []⟩]
          clear A2 G
          generalize holdF k (oLocks o me) = r at e0 A3 d1 hfr hown
          obtain ⟨a, e⟩ := r
          dsimp only at e0 A3 hfr hown
          subst e0
          have asm2 := ok_small A3.ok
          have fr := fun you H => c41 a you [⟨o.t, o.key, false, []⟩] asm2 (by simp) (by intro x hx; rw [List.mem_singleton] at hx; subst hx; have := hO.1; show o.key.length ≤ _; omega) H
          have fr1 := fun H => hown ▸ fr me H
          have c40' := fun H => c40 o H
          rw [ocheck_eq] at c40'
          obtain ⟨ah, aq⟩ := a
          have hq : aq = [] := A3.queue
          subst hq
          unfold pHold at d1
          dsimp only at d1
          refine ⟨_, _, h38 _, True.intro, ?_⟩
          conv => whnf
          refine And.intro (fun h => absurd h (by decide)) (fun _ => ?_)
          conv => whnf
          refine ⟨by omega, cOper o, fx, rfl, ?_⟩
          conv => whnf
          refine ⟨_, _, d1 _, True.intro, ?_⟩
          conv => whnf
          refine And.intro (fun _ => ?_) (fun h => absurd h (by decide))
          conv => whnf
          refine And.intro (fun h => absurd (show false = true from h) (by decide)) (fun _ => ?_)
          conv => whnf
          refine ⟨by omega, cOper o, fx, rfl, ?_⟩
          conv => whnf
          refine ⟨by omega, cOper o, fx, rfl, ?_⟩
          conv => whnf
          refine ⟨by omega, cOper o, fx, rfl, ?_⟩
          conv => whnf
          clear d1 h38 asm hA
          have hme : ∀ you : Int, you = (me + 1).tmod 4 → you ≠ me := fun you hy => by
            rw [Int.tmod_eq_emod_of_nonneg (by omega)] at hy; omega
          refine And.intro (fun k2 => ?_) (fun k2 => ?_)
          · conv => whnf
            refine ⟨by omega, cOper o, fx, rfl, ?_⟩
            conv => whnf
            refine ⟨_, _, c40' _, True.intro, ?_⟩
            conv => whnf
            refine And.intro (fun k3 => ?_) (fun k3 => ?_)
            · conv => whnf
              intro z hz
              conv => whnf
              rw [wrap_small (by omega) (by omega)] at hz
              subst hz
              refine ⟨by decide, ?_⟩
              intro you hyou
              conv => whnf
              have hf := hfr (errI_ok k3) (eq_of_beq k2) you (hme you hyou)
              have fr2 := fun H => hf ▸ fr you H
              refine ⟨_, _, fr2 _, True.intro, ?_⟩
              conv => whnf
              refine And.intro (fun _ => ?_) (fun h => absurd h (by decide))
              conv => whnf
              refine ⟨_, _, fr1 _, True.intro, ?_⟩
              conv => whnf
              refine And.intro (fun h => absurd h (by decide)) (fun _ => ?_)
              conv => whnf
              intro z hz
              conv => whnf
              rw [wrap_small (by omega) (by omega)] at hz
              subst hz
              refine ⟨(i + 1, ⟨ah, []⟩), [0], ⟨hi', by show i + 1 ≤ 15; omega, A3⟩, by show l.length - (i + 1) < l.length - i; omega, And.intro rfl (And.intro ?_ ?_)⟩
              all_goals (repeat' (first | exact True.intro | exact rfl | refine And.intro ?_ ?_))
            · conv => whnf
              intro z hz
              conv => whnf
              rw [wrap_small (by omega) (by omega)] at hz
              subst hz
              refine ⟨(i + 1, ⟨ah, []⟩), [0], ⟨hi', by show i + 1 ≤ 15; omega, A3⟩, by show l.length - (i + 1) < l.length - i; omega, And.intro rfl (And.intro ?_ ?_)⟩
              all_goals (repeat' (first | exact True.intro | exact rfl | refine And.intro ?_ ?_))
          · conv => whnf
            intro z hz
            conv => whnf
            rw [wrap_small (by omega) (by omega)] at hz
            subst hz
            refine ⟨(i + 1, ⟨ah, []⟩), [0], ⟨hi', by show i + 1 ≤ 15; omega, A3⟩, by show l.length - (i + 1) < l.length - i; omega, And.intro rfl (And.intro ?_ ?_)⟩
            all_goals (repeat' (first | exact True.intro | exact rfl | refine And.intro ?_ ?_))
      · conv => whnf
        refine And.intro (fun _ => ?_) (fun h => absurd h (by decide))
        conv => whnf
        refine ⟨_, _, ck _, True.intro, ?_⟩
        conv => whnf
        exact ⟨[], rfl, rfl, True.intro⟩
    · conv => whnf
      refine And.intro (fun _ => ?_) (fun h => absurd h (by decide))
      conv => whnf
      refine ⟨_, _, ck _, True.intro, ?_⟩
      conv => whnf
      exact ⟨[], rfl, rfl, True.intro⟩
end Go.Proofs.Ve

/- The row of HandAlone: its walk's contract, lifted. -/
set_option linter.all false
set_option maxRecDepth 100000
namespace Go.Proofs.Ytpmhiiembbfbeaa.handAlone
open Go Go.Proofs.Ve Go.ChangeShapes Go.WideShapes Go.ChangeAt Go.RowKit
theorem own : ownKnob Try.prog.godebug = none := by kernel_rfl
theorem laidOut : laidOutB Try.prog = true := by kernel_rfl
theorem lifted (os : Os) (started : os.Started) (H : Type) (enc : TypeId × Value → H) :
    ReturnsInHanded {} Try.checked os 12 .any (Rows.handAloneSpec.pre6 enc Try.prog Try.f12 Rows.handAloneRow.domain false) (Rows.handAloneSpec.post enc Try.prog Try.f12 false true false false) := by
  refine returnsInHanded_of_change_sized (C := Try.checked) own started (by kernel_rfl) Try.func12
    (ChangeSpec.witness6 (enc := enc) (C := Try.checked) false ⟨#[], #[.slice none 0 0, .int .u8 0], []⟩ 8 (by kernel_rfl) (by kernel_rfl) (by kernel_rfl) (by kernel_rfl)) ?_
  intro W base args ds gs before hval0 hW hcnd hsz0 _
  have hval : ∀ (j : Nat) t v, Try.f12.params[j]? = some t → args[j]? = some v → Value.okWide Try.prog W .any base t v := hval0
  have hW' := hW
  obtain ⟨p, q, hA0, hV, rfl, hfz, hnd⟩ := hW
  have hA : DataW.TrodAll enc Try.prog W 0 (fun _ => true) true Try.f12.params.toList args.toList ds p := hA0
  rw [Try.params12] at hA hval
  obtain ⟨v0, vs0, d0, ds0, p0, q0, hargs, rfl, rfl, h0, r0⟩ := trodAll_cons hA
  obtain ⟨v1, vs1, d1, ds1, p1, q1, rfl, rfl, rfl, h1, r1⟩ := trodAll_cons r0
  obtain ⟨rfl, rfl, rfl⟩ := trodAll_nil r1
  obtain rfl : args = #[v0, v1] := by cases args; simp_all
  obtain ⟨rfl, rfl⟩ := trodVars_none hV
  obtain ⟨e0, fit0, rp0⟩ := arg_reads 12 (r := [.sl ctOp]) (by kernel_rfl) (hval 0 _ v0 rfl rfl) h0
  obtain ⟨x0, hx0⟩ := fit_opers fit0
  have rp0 : RP (m0 W) _ v0 := hx0 ▸ rp0
  have lt0 : ∀ x ∈ p0, x.block < W.heap.size := by obtain ⟨m, hm⟩ := h0; exact DataW.trod_lt m _ _ _ hm
  obtain ⟨e1, fit1, rp1⟩ := arg_reads 12 (r := [.int .u8]) (by kernel_rfl) (hval 1 _ v1 rfl rfl) h1
  obtain ⟨x1, hx1, hw1⟩ := fit_int fit1
  have rp1 : RP (m0 W) _ v1 := hx1 ▸ rp1
  have lt1 : ∀ x ∈ p1, x.block < W.heap.size := by obtain ⟨m, hm⟩ := h1; exact DataW.trod_lt m _ _ _ hm
  have call : Calls Try.prog 12 #[v0, v1] W fun e W' => e = .returned (.bool true) ∧ Below W.heap.size W W' := by
    refine CallEq.calls (c12 x0 x1 (wf_u8 hw1) []) rfl ?_
    intro j p v hp hv
    match j with
    | 0 => cases hp; cases hv; exact rp0
    | 1 => cases hp; cases hv; exact rp1
    | j + 2 => cases hp
  refine call.mono fun e W' ⟨he, bel⟩ => ?_
  subst he
  exact ⟨_, rfl, _, _, _, [], _, [], hW', trodAll_mk1 (shut_bool Try.underlying4 _), (trodAll_cons_mk (Below.trod laidOut (by kernel_rfl) (of_decide_eq_true (by kernel_rfl)) h0 bel lt0) (trodAll_cons_mk (Below.trod laidOut (by kernel_rfl) (of_decide_eq_true (by kernel_rfl)) h1 bel lt1) trodAll_mk0)), rfl, bel.frame _, fun h => by cases h⟩
theorem over : Rows.handAloneRow.holds Try.pinned (OpenSpec.ofChange Rows.handAloneSpec) :=
  OpenClaim.holds_of_wide 12 Try.f12 rfl rfl rfl rfl rfl rfl rfl ⟨rfl, rfl, rfl, rfl, rfl⟩ rfl rfl rfl rfl rfl (by kernel_rfl) Try.func12 (by kernel_rfl)
    (of_decide_eq_true (by kernel_rfl)) (by unfold Func.isWrapper; first | (rw [if_pos (by decide +kernel)]; kernel_rfl) | (rw [if_neg (by decide +kernel)]; exact ⟨rfl, rfl⟩))
    (fun os started H enc _ => lifted os started H enc)
theorem proved : Rows.HandAloneSaid := over
#print axioms proved
end Go.Proofs.Ytpmhiiembbfbeaa.handAlone
namespace Go.Proofs.Ytpmhiiembbfbeaa
/-- The row, under a short name, for the claim. -/
theorem handAlone_holds : Rows.HandAloneSaid := handAlone.proved
end Go.Proofs.Ytpmhiiembbfbeaa
