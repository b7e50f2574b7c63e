/- HandTells, part 5 of 6. The engine and the contracts that the proof needs. -/
import Derived.Test.YtpmhiiembbfbeaaGreatHandTellsJ1
import Derived.Test.YtpmhiiembbfbeaaGreatHandTellsJ2
import Derived.Test.YtpmhiiembbfbeaaGreatHandTellsJ3
import Derived.Test.YtpmhiiembbfbeaaGreatHandTellsJ4
/- Waiting: the document's reach, and who is stuck by it. -/
set_option maxRecDepth 100000
set_option maxHeartbeats 4000000
set_option linter.all false
namespace Go.Proofs.Ve
open Go
abbrev Vec := Nat → Bool
def vecC (r : Vec) : List PV := [.d (.bool (r 0)), .d (.bool (r 1)), .d (.bool (r 2)), .d (.bool (r 3))]
def setV (r : Vec) (i : Nat) (b : Bool) : Vec := fun k => bif Nat.beq k i then b else r k
def orTo (r s : Vec) : Nat → Vec
  | 0 => r
  | j + 1 => setV (orTo r s j) j (orTo r s j j || s j)
def skipE (f : Int) (e : Int × Int) : Bool := e.1 != f || (decide (e.2 < 0) || decide (e.2 > 3))
def reachF (l : List (Int × Int)) : Nat → Int → Vec
  | 0, _ => fun _ => false
  | n + 1, f => l.foldl (fun out e => bif skipE f e then out else orTo (setV out e.2.toNat true) (reachF l n e.2) 4) (fun _ => false)
theorem c75 (l : List (Int × Int)) (hl : l.length < 100000) : ∀ (n : Nat), n < 100 → ∀ (f : Int) (H : List (List Blk)), CallEq X H 101 [.d (encE l), .d (.int .i64 f), .d (.int .i64 n)] (.agg (vecC (reachF l n f))) [] := by
  intro n
  induction n with
  | zero =>
    intro _ f H
    refine callEq_of_body X_ok rfl Tryz.func101 rfl ?_
    conv => whnf
    refine And.intro (fun h => ?_) (fun h => absurd h (by decide))
    conv => whnf
    exact ⟨[], rfl, (by (repeat' (first | exact True.intro | exact rfl | refine And.intro ?_ ?_))), True.intro⟩
  | succ n ih =>
    intro hn f H
    refine callEq_of_body X_ok rfl Tryz.func101 rfl ?_
    conv => whnf
    refine And.intro (fun h => by simp at h; omega) (fun h => ?_)
    conv => whnf
    refine loopV_of (fun k : Nat => ⟨[.d (encE l), .d (.int .i64 f), .d (.int .i64 (n + 1 : Nat)), .any, .any, .any, .ptr 0 0 0, .ptr 0 1 0, .d (.int .i64 k), .any, .any, .any, .any, .any, .any, .any, .any, .any, .any, .any, .any, .any, .any, .any, .any, .any, .any, .any, .any, .any, .any, .any, .any, .any, .any, .any, .any, .any, .any, .any, .any, .any, .any, .any, .any, .any, .any, .any, .any, .any, .any, .any, .any, .any, .any, .any, .any, .any, .any, .any, .any, .any, .any, .any, .any, .any], [.box [.kb false, .kb false, .kb false, .kb false], .box (vecC ((l.take k).foldl (fun out e => bif skipE f e then out else orTo (setV out e.2.toNat true) (reachF l n e.2) 4) (fun _ => false)))]⟩)
      (fun k => k ≤ l.length) (fun k => l.length - k) 0 [0, 1] (Nat.zero_le _) ?_ ?_
    · refine And.intro rfl (And.intro ?_ ?_)
      all_goals (repeat' (first | exact True.intro | exact rfl | refine And.intro ?_ ?_))
    · intro k hk
      conv => whnf
      refine And.intro (fun h_ => ?_) (fun h_ => ?_)
      · conv => whnf
        have hk' : k < l.length := by simpa using h_
        obtain ⟨⟨a, b⟩, he⟩ : ∃ e, l[k]? = some e := ⟨_, List.getElem?_eq_getElem hk'⟩
        have fe : (l.map cEdge)[k]? = some (cEdge (a, b)) := by simp [he]
        have hst := fold_snoc (f := fun (out : Vec) (e : Int × Int) => bif skipE f e then out else orTo (setV out e.2.toNat true) (reachF l n e.2) 4) (b := fun _ => false) he
        generalize hw : (l.take k).foldl (fun (out : Vec) (e : Int × Int) => bif skipE f e then out else orTo (setV out e.2.toNat true) (reachF l n e.2) 4) (fun _ => false) = w at hst ⊢
        dsimp only at hst
        refine ⟨by omega, cEdge (a, b), fe, rfl, ?_⟩
        conv => whnf
        refine ⟨by decide, by decide, 0, rfl, ?_⟩
        conv => whnf
        refine ⟨by omega, cEdge (a, b), fe, rfl, ?_⟩
        conv => whnf
        refine ⟨by decide, by decide, 1, rfl, ?_⟩
        conv => whnf
        have next1 : skipE f (a, b) = true → (l.take (k + 1)).foldl (fun (out : Vec) (e : Int × Int) => bif skipE f e then out else orTo (setV out e.2.toNat true) (reachF l n e.2) 4) (fun _ => false) = w := fun h => by rw [hst, h]; rfl
        have next2 : skipE f (a, b) = false → (l.take (k + 1)).foldl (fun (out : Vec) (e : Int × Int) => bif skipE f e then out else orTo (setV out e.2.toNat true) (reachF l n e.2) 4) (fun _ => false) = orTo (setV w b.toNat true) (reachF l n b) 4 := fun h => by rw [hst, h]; rfl
        clear hst hw
        refine And.intro (fun q1 => ?_) (fun q1 => ?_)
        · conv => whnf
          refine And.intro (fun q2 => ?_) (fun q2 => ?_)
          · conv => whnf
            refine And.intro (fun q3 => ?_) (fun q3 => ?_)
            · conv => whnf
              intro z hz
              conv => whnf
              rw [wrap_small (by omega) (by omega)] at hz
              subst hz
              refine ⟨k + 1, [0, 1], by omega, by omega, ?_⟩
              rw [next1 (by unfold skipE; simp_all)]
              refine And.intro rfl (And.intro ?_ ?_)
              all_goals (repeat' (first | exact True.intro | exact rfl | refine And.intro ?_ ?_))
            · conv => whnf
              have hb : b = 0 ∨ b = 1 ∨ b = 2 ∨ b = 3 := by simp at q2 q3; omega
              have nx := next2 (by unfold skipE; simp_all)
              clear next1 next2
              generalize hs : setV w b.toNat true = w1 at nx
              generalize hr : reachF l n b = r at nx
              have ih := fun H => hr ▸ ih (by omega) b H
              refine idx4 hb (fun ho => ?_) (fun ho => ?_) (fun ho => ?_) (fun ho => ?_)
              all_goals
                conv => whnf
                intro z hz
                conv => whnf
                rw [show ((n + 1 : Nat) : Int) - 1 = (n : Int) by omega, wrap_small (by omega) (by omega)] at hz
                subst hz
                refine ⟨_, _, ih _, True.intro, ?_⟩
                conv => whnf
                have ho' : b = _ := ho
                subst ho'
                refine loopV_of (fun j : Nat => ⟨[.d (encE l), .d (.int .i64 f), .d (.int .i64 (n + 1 : Nat)), .any, .any, .any, .ptr 0 0 0, .ptr 0 1 0, .d (.int .i64 k), .any, .any, .ptr 0 2 0, .d (.int .i64 j), .any, .any, .any, .any, .any, .any, .any, .any, .any, .any, .any, .any, .any, .any, .any, .any, .any, .any, .any, .any, .any, .any, .any, .any, .any, .any, .any, .any, .any, .any, .any, .any, .any, .any, .any, .any, .any, .any, .any, .any, .any, .any, .any, .any, .any, .any, .any, .any, .any, .any, .any, .any, .any], [.box [.kb false, .kb false, .kb false, .kb false], .box (vecC (orTo w1 r j)), .box (vecC r)]⟩)
                  (fun j => j ≤ 4) (fun j => 4 - j) 0 [0, 1, 2] (Nat.zero_le _) ?_ ?_
                · subst hs
                  refine And.intro rfl (And.intro ?_ ?_)
                  all_goals (repeat' (first | exact True.intro | exact rfl | refine And.intro ?_ ?_))
                · intro j hj
                  clear ih hr hs
                  match j, hj with
                  | 4, _ =>
                    conv => whnf
                    refine And.intro (fun h_ => absurd h_ (by decide)) (fun h_ => ?_)
                    conv => whnf
                    intro z hz
                    conv => whnf
                    rw [wrap_small (by omega) (by omega)] at hz
                    subst hz
                    refine ⟨k + 1, [0, 1], by omega, by omega, ?_⟩
                    rw [nx]
                    refine And.intro rfl (And.intro ?_ ?_)
                    all_goals (repeat' (first | exact True.intro | exact rfl | refine And.intro ?_ ?_))
                  | 0, _ =>
                    have st : orTo w1 r (0 + 1) = setV (orTo w1 r 0) 0 (orTo w1 r 0 0 || r 0) := rfl
                    generalize orTo w1 r 0 = v at st ⊢
                    conv => whnf
                    refine And.intro (fun h_ => ?_) (fun h_ => absurd h_ (by decide))
                    conv => whnf
                    refine ⟨by decide, by decide, 0, rfl, ?_⟩
                    conv => whnf
                    refine And.intro (fun p1 => ?_) (fun p1 => ?_)
                    · conv => whnf
                      refine ⟨by decide, by decide, 0, rfl, ?_⟩
                      conv => whnf
                      refine ⟨by decide, by decide, 0, rfl, ?_⟩
                      conv => whnf
                      intro z hz
                      conv => whnf
                      subst hz
                      refine ⟨0 + 1, [0, 1, 2], by omega, by omega, ?_⟩
                      rw [st]
                      refine And.intro rfl (And.intro ?_ ?_)
                      all_goals (repeat' (first | exact True.intro | exact rfl | refine And.intro ?_ ?_))
                      all_goals (show DV.bool _ = DV.bool (v _ || r _); simp [p1])
                    · conv => whnf
                      refine ⟨by decide, by decide, 0, rfl, ?_⟩
                      conv => whnf
                      intro z hz
                      conv => whnf
                      subst hz
                      refine ⟨0 + 1, [0, 1, 2], by omega, by omega, ?_⟩
                      rw [st]
                      refine And.intro rfl (And.intro ?_ ?_)
                      all_goals (repeat' (first | exact True.intro | exact rfl | refine And.intro ?_ ?_))
                      all_goals (show DV.bool _ = DV.bool (v _ || r _); simp [p1])
                  | 1, _ =>
                    have st : orTo w1 r (1 + 1) = setV (orTo w1 r 1) 1 (orTo w1 r 1 1 || r 1) := rfl
                    generalize orTo w1 r 1 = v at st ⊢
                    conv => whnf
                    refine And.intro (fun h_ => ?_) (fun h_ => absurd h_ (by decide))
                    conv => whnf
                    refine ⟨by decide, by decide, 1, rfl, ?_⟩
                    conv => whnf
                    refine And.intro (fun p1 => ?_) (fun p1 => ?_)
                    · conv => whnf
                      refine ⟨by decide, by decide, 1, rfl, ?_⟩
                      conv => whnf
                      refine ⟨by decide, by decide, 1, rfl, ?_⟩
                      conv => whnf
                      intro z hz
                      conv => whnf
                      subst hz
                      refine ⟨1 + 1, [0, 1, 2], by omega, by omega, ?_⟩
                      rw [st]
                      refine And.intro rfl (And.intro ?_ ?_)
                      all_goals (repeat' (first | exact True.intro | exact rfl | refine And.intro ?_ ?_))
                      all_goals (show DV.bool _ = DV.bool (v _ || r _); simp [p1])
                    · conv => whnf
                      refine ⟨by decide, by decide, 1, rfl, ?_⟩
                      conv => whnf
                      intro z hz
                      conv => whnf
                      subst hz
                      refine ⟨1 + 1, [0, 1, 2], by omega, by omega, ?_⟩
                      rw [st]
                      refine And.intro rfl (And.intro ?_ ?_)
                      all_goals (repeat' (first | exact True.intro | exact rfl | refine And.intro ?_ ?_))
                      all_goals (show DV.bool _ = DV.bool (v _ || r _); simp [p1])
                  | 2, _ =>
                    have st : orTo w1 r (2 + 1) = setV (orTo w1 r 2) 2 (orTo w1 r 2 2 || r 2) := rfl
                    generalize orTo w1 r 2 = v at st ⊢
                    conv => whnf
                    refine And.intro (fun h_ => ?_) (fun h_ => absurd h_ (by decide))
                    conv => whnf
                    refine ⟨by decide, by decide, 2, rfl, ?_⟩
                    conv => whnf
                    refine And.intro (fun p1 => ?_) (fun p1 => ?_)
                    · conv => whnf
                      refine ⟨by decide, by decide, 2, rfl, ?_⟩
                      conv => whnf
                      refine ⟨by decide, by decide, 2, rfl, ?_⟩
                      conv => whnf
                      intro z hz
                      conv => whnf
                      subst hz
                      refine ⟨2 + 1, [0, 1, 2], by omega, by omega, ?_⟩
                      rw [st]
                      refine And.intro rfl (And.intro ?_ ?_)
                      all_goals (repeat' (first | exact True.intro | exact rfl | refine And.intro ?_ ?_))
                      all_goals (show DV.bool _ = DV.bool (v _ || r _); simp [p1])
                    · conv => whnf
                      refine ⟨by decide, by decide, 2, rfl, ?_⟩
                      conv => whnf
                      intro z hz
                      conv => whnf
                      subst hz
                      refine ⟨2 + 1, [0, 1, 2], by omega, by omega, ?_⟩
                      rw [st]
                      refine And.intro rfl (And.intro ?_ ?_)
                      all_goals (repeat' (first | exact True.intro | exact rfl | refine And.intro ?_ ?_))
                      all_goals (show DV.bool _ = DV.bool (v _ || r _); simp [p1])
                  | 3, _ =>
                    have st : orTo w1 r (3 + 1) = setV (orTo w1 r 3) 3 (orTo w1 r 3 3 || r 3) := rfl
                    generalize orTo w1 r 3 = v at st ⊢
                    conv => whnf
                    refine And.intro (fun h_ => ?_) (fun h_ => absurd h_ (by decide))
                    conv => whnf
                    refine ⟨by decide, by decide, 3, rfl, ?_⟩
                    conv => whnf
                    refine And.intro (fun p1 => ?_) (fun p1 => ?_)
                    · conv => whnf
                      refine ⟨by decide, by decide, 3, rfl, ?_⟩
                      conv => whnf
                      refine ⟨by decide, by decide, 3, rfl, ?_⟩
                      conv => whnf
                      intro z hz
                      conv => whnf
                      subst hz
                      refine ⟨3 + 1, [0, 1, 2], by omega, by omega, ?_⟩
                      rw [st]
                      refine And.intro rfl (And.intro ?_ ?_)
                      all_goals (repeat' (first | exact True.intro | exact rfl | refine And.intro ?_ ?_))
                      all_goals (show DV.bool _ = DV.bool (v _ || r _); simp [p1])
                    · conv => whnf
                      refine ⟨by decide, by decide, 3, rfl, ?_⟩
                      conv => whnf
                      intro z hz
                      conv => whnf
                      subst hz
                      refine ⟨3 + 1, [0, 1, 2], by omega, by omega, ?_⟩
                      rw [st]
                      refine And.intro rfl (And.intro ?_ ?_)
                      all_goals (repeat' (first | exact True.intro | exact rfl | refine And.intro ?_ ?_))
                      all_goals (show DV.bool _ = DV.bool (v _ || r _); simp [p1])
          · conv => whnf
            intro z hz
            conv => whnf
            rw [wrap_small (by omega) (by omega)] at hz
            subst hz
            refine ⟨k + 1, [0, 1], by omega, by omega, ?_⟩
            rw [next1 (by unfold skipE; simp_all)]
            refine And.intro rfl (And.intro ?_ ?_)
            all_goals (repeat' (first | exact True.intro | exact rfl | refine And.intro ?_ ?_))
        · conv => whnf
          intro z hz
          conv => whnf
          rw [wrap_small (by omega) (by omega)] at hz
          subst hz
          refine ⟨k + 1, [0, 1], by omega, by omega, ?_⟩
          rw [next1 (by unfold skipE; simp_all)]
          refine And.intro rfl (And.intro ?_ ?_)
          all_goals (repeat' (first | exact True.intro | exact rfl | refine And.intro ?_ ?_))
      · conv => whnf
        have hk' : k = l.length := by simp at h_; omega
        rw [hk', List.take_length]
        exact ⟨[], rfl, (by (repeat' (first | exact True.intro | exact rfl | refine And.intro ?_ ?_))), True.intro⟩
end Go.Proofs.Ve

/- Waiting: who is stuck, the document's. -/
set_option maxRecDepth 100000
set_option maxHeartbeats 4000000
set_option linter.all false
namespace Go.Proofs.Ve
open Go
def reachM (l : List (Int × Int)) : Mat := fun i => reachF l 4 i
theorem c36r (l : List (Int × Int)) (hl : l.length < 100000) (H : List (List Blk)) : CallEq X H 69 [.d (encE l)] (.row 0 0 (stuckM (reachM l)).length) [⟨3, 1, rowI (stuckM (reachM l))⟩] := by
  refine callEq_of_body X_ok rfl Tryz.func69 rfl ?_
  conv => whnf
  have h75 : ∀ (i : Nat) H, CallEq X H 101 [.d (encE l), .d (.int .i64 i), .d (.int .i64 (4 : Nat))] (.agg (vecC (reachM l i))) [] := fun i H => c75 l hl 4 (by decide) i H
  generalize reachM l = w at h75 ⊢
  obtain ⟨R, R0, R4, Rs, Rl⟩ := stuck_parts w
  rw [← R4]
  refine loopV_of (fun k : Nat => ⟨[.d (encE l), .any, .any, .row 0 0 (R k).length, .d (.int .i64 k), .any, .any, .any, .any, .any, .any, .any, .any, .any, .any, .any, .any, .any, .any, .any, .any], [.row 3 1 (rowI (R k))]⟩)
    (fun k => k ≤ 4) (fun k => 4 - k) 0 [100] (Nat.zero_le _) ?_ ?_
  · dsimp only
    rw [R0]
    refine And.intro rfl (And.intro ?_ ?_)
    all_goals (repeat' (first | exact True.intro | exact rfl | refine And.intro ?_ ?_))
  · intro k hk
    match k, hk with
    | 4, _ =>
      conv => whnf
      refine And.intro (fun h_ => absurd h_ (by decide)) (fun h_ => ?_)
      conv => whnf
      exact ⟨[0], rfl, And.intro rfl rfl, And.intro (And.intro rfl (And.intro rfl rfl)) True.intro⟩
    | 0, _ =>
      have st := Rs 0 _ rfl
      have hr := Rl 0
      conv => whnf
      refine And.intro (fun h_ => ?_) (fun h_ => absurd h_ (by decide))
      conv => whnf
      refine ⟨_, _, h75 0 _, True.intro, ?_⟩
      conv => whnf
      refine ⟨by decide, by decide, 0, rfl, ?_⟩
      conv => whnf
      refine And.intro (fun q1 => ?_) (fun q1 => ?_) <;> (conv => whnf)
      · rw [q1, cond_true] at st
        refine ⟨fun y hy => by simp at hy; subst hy; rfl, ?_⟩
        conv => whnf
        refine ⟨(rowI_len _).symm, by (first | omega | (dsimp only; omega) | (simp; done) | (simp; omega)), ?_⟩
        conv => whnf
        intro z hz
        conv => whnf
        subst hz
        refine ⟨0 + 1, [2], by omega, by omega, And.intro rfl (And.intro ?_ ?_)⟩
        all_goals (repeat' (first | exact True.intro | exact rfl | refine And.intro ?_ ?_))
        · show PV.row 0 2 _ = PV.row 0 2 _
          rw [st]; simp
        · rw [st]; simp [rowI]
      · rw [show w 0 0 = false from q1, cond_false, List.append_nil] at st
        intro z hz
        conv => whnf
        subst hz
        refine ⟨0 + 1, [0], by omega, by omega, And.intro rfl (And.intro ?_ ?_)⟩
        all_goals (repeat' (first | exact True.intro | exact rfl | refine And.intro ?_ ?_))
        · show PV.row 0 0 _ = PV.row 0 0 _
          rw [st]
        · rw [st]
    | 1, _ =>
      have st := Rs 1 _ rfl
      have hr := Rl 1
      conv => whnf
      refine And.intro (fun h_ => ?_) (fun h_ => absurd h_ (by decide))
      conv => whnf
      refine ⟨_, _, h75 1 _, True.intro, ?_⟩
      conv => whnf
      refine ⟨by decide, by decide, 1, rfl, ?_⟩
      conv => whnf
      refine And.intro (fun q1 => ?_) (fun q1 => ?_) <;> (conv => whnf)
      · rw [q1, cond_true] at st
        refine ⟨fun y hy => by simp at hy; subst hy; rfl, ?_⟩
        conv => whnf
        refine ⟨(rowI_len _).symm, by (first | omega | (dsimp only; omega) | (simp; done) | (simp; omega)), ?_⟩
        conv => whnf
        intro z hz
        conv => whnf
        subst hz
        refine ⟨1 + 1, [2], by omega, by omega, And.intro rfl (And.intro ?_ ?_)⟩
        all_goals (repeat' (first | exact True.intro | exact rfl | refine And.intro ?_ ?_))
        · show PV.row 0 2 _ = PV.row 0 2 _
          rw [st]; simp
        · rw [st]; simp [rowI]
      · rw [show w 1 1 = false from q1, cond_false, List.append_nil] at st
        intro z hz
        conv => whnf
        subst hz
        refine ⟨1 + 1, [0], by omega, by omega, And.intro rfl (And.intro ?_ ?_)⟩
        all_goals (repeat' (first | exact True.intro | exact rfl | refine And.intro ?_ ?_))
        · show PV.row 0 0 _ = PV.row 0 0 _
          rw [st]
        · rw [st]
    | 2, _ =>
      have st := Rs 2 _ rfl
      have hr := Rl 2
      conv => whnf
      refine And.intro (fun h_ => ?_) (fun h_ => absurd h_ (by decide))
      conv => whnf
      refine ⟨_, _, h75 2 _, True.intro, ?_⟩
      conv => whnf
      refine ⟨by decide, by decide, 2, rfl, ?_⟩
      conv => whnf
      refine And.intro (fun q1 => ?_) (fun q1 => ?_) <;> (conv => whnf)
      · rw [q1, cond_true] at st
        refine ⟨fun y hy => by simp at hy; subst hy; rfl, ?_⟩
        conv => whnf
        refine ⟨(rowI_len _).symm, by (first | omega | (dsimp only; omega) | (simp; done) | (simp; omega)), ?_⟩
        conv => whnf
        intro z hz
        conv => whnf
        subst hz
        refine ⟨2 + 1, [2], by omega, by omega, And.intro rfl (And.intro ?_ ?_)⟩
        all_goals (repeat' (first | exact True.intro | exact rfl | refine And.intro ?_ ?_))
        · show PV.row 0 2 _ = PV.row 0 2 _
          rw [st]; simp
        · rw [st]; simp [rowI]
      · rw [show w 2 2 = false from q1, cond_false, List.append_nil] at st
        intro z hz
        conv => whnf
        subst hz
        refine ⟨2 + 1, [0], by omega, by omega, And.intro rfl (And.intro ?_ ?_)⟩
        all_goals (repeat' (first | exact True.intro | exact rfl | refine And.intro ?_ ?_))
        · show PV.row 0 0 _ = PV.row 0 0 _
          rw [st]
        · rw [st]
    | 3, _ =>
      have st := Rs 3 _ rfl
      have hr := Rl 3
      conv => whnf
      refine And.intro (fun h_ => ?_) (fun h_ => absurd h_ (by decide))
      conv => whnf
      refine ⟨_, _, h75 3 _, True.intro, ?_⟩
      conv => whnf
      refine ⟨by decide, by decide, 3, rfl, ?_⟩
      conv => whnf
      refine And.intro (fun q1 => ?_) (fun q1 => ?_) <;> (conv => whnf)
      · rw [q1, cond_true] at st
        refine ⟨fun y hy => by simp at hy; subst hy; rfl, ?_⟩
        conv => whnf
        refine ⟨(rowI_len _).symm, by (first | omega | (dsimp only; omega) | (simp; done) | (simp; omega)), ?_⟩
        conv => whnf
        intro z hz
        conv => whnf
        subst hz
        refine ⟨3 + 1, [2], by omega, by omega, And.intro rfl (And.intro ?_ ?_)⟩
        all_goals (repeat' (first | exact True.intro | exact rfl | refine And.intro ?_ ?_))
        · show PV.row 0 2 _ = PV.row 0 2 _
          rw [st]; simp
        · rw [st]; simp [rowI]
      · rw [show w 3 3 = false from q1, cond_false, List.append_nil] at st
        intro z hz
        conv => whnf
        subst hz
        refine ⟨3 + 1, [0], by omega, by omega, And.intro rfl (And.intro ?_ ?_)⟩
        all_goals (repeat' (first | exact True.intro | exact rfl | refine And.intro ?_ ?_))
        · show PV.row 0 0 _ = PV.row 0 0 _
          rw [st]
        · rw [st]
theorem c36 (l : List (Int × Int)) (hl : l.length < 100000) (H : List (List Blk)) : CallEq X H 69 [.d (encE l)] (.d (encI (stuckM (reachM l)))) [] :=
  (c36r l hl H).freeze 2 (by
    change PV.d (.sl (List.take (stuckM (reachM l)).length (rowI (stuckM (reachM l))))) = _
    rw [List.take_of_length_le (by rw [rowI_len]; exact Nat.le_refl _)]; rfl)
end Go.Proofs.Ve


/- Waiting: the youngest. -/
set_option maxRecDepth 100000
set_option maxHeartbeats 4000000
set_option linter.all false
namespace Go.Proofs.Ve
open Go
def pSt (s : Nat → Int) : PV := .agg [.d (.int .i64 (s 0)), .d (.int .i64 (s 1)), .d (.int .i64 (s 2)), .d (.int .i64 (s 3))]
def in4 (x : Int) : Prop := x = 0 ∨ x = 1 ∨ x = 2 ∨ x = 3
def yngr (s : Nat → Int) (x y : Int) : Int := if decide (s x.toNat < s y.toNat) then -1 else if decide (s x.toNat > s y.toNat) then 1 else x - y
theorem wrap_mid {k : Int} (h0 : -9223372036854775808 ≤ k) (h1 : k < 9223372036854775808) : IntKind.i64.wrap k = k := by rw [IntKind.wrap_i64]; omega
theorem c72 (s : Nat → Int) (x y : Int) (hx : in4 x) (hy : in4 y) (H : List (List Blk)) : CallEq X H 60 [pSt s, .d (.int .i64 x), .d (.int .i64 y)] (.d (.int .i64 (yngr s x y))) [] := by
  refine callEq_of_body X_ok rfl Tryz.func60 rfl ?_
  conv => whnf
  rcases hx with rfl | rfl | rfl | rfl <;> rcases hy with rfl | rfl | rfl | rfl
  all_goals
    unfold yngr
    simp only [show Int.toNat 0 = 0 from rfl, show Int.toNat 1 = 1 from rfl, show Int.toNat 2 = 2 from rfl, show Int.toNat 3 = 3 from rfl]
    refine ⟨by decide, by decide, _, rfl, ?_⟩
    conv => whnf
    refine ⟨by decide, by decide, _, rfl, ?_⟩
    conv => whnf
    refine And.intro (fun q1 => ?_) (fun q1 => ?_)
    · conv => whnf
      refine ⟨[], rfl, ?_, True.intro⟩
      rw [if_pos q1]; rfl
    · conv => whnf
      refine ⟨by decide, by decide, _, rfl, ?_⟩
      conv => whnf
      refine ⟨by decide, by decide, _, rfl, ?_⟩
      conv => whnf
      refine And.intro (fun q2 => ?_) (fun q2 => ?_)
      · conv => whnf
        refine ⟨[], rfl, ?_, True.intro⟩
        rw [if_neg (by rw [q1]; decide), if_pos q2]; rfl
      · conv => whnf
        intro z hz
        conv => whnf
        refine ⟨[], rfl, ?_, True.intro⟩
        rw [if_neg (by rw [q1]; decide), if_neg (by rw [q2]; decide), hz]
        rfl
end Go.Proofs.Ve

/- Waiting: the victim. -/
set_option maxRecDepth 100000
set_option linter.all false
namespace Go.Proofs.Ve
open Go
def maxF (s : Nat → Int) : Int → List Int → Int
  | b, [] => b
  | b, x :: xs => maxF s (bif decide (yngr s x b > 0) then x else b) xs
theorem maxF_step (s : Nat → Int) (b : Int) {l : List Int} {k : Nat} {x : Int} (h : l[k]? = some x) : maxF s b (l.drop k) = maxF s (bif decide (yngr s x b > 0) then x else b) (l.drop (k + 1)) := by
  have hk := (List.getElem?_eq_some_iff.1 h).1
  rw [List.drop_eq_getElem_cons hk, (List.getElem?_eq_some_iff.1 h).2, maxF]
theorem c73 (s : Nat → Int) (b : Int) (l : List Int) (hl : l.length < 1000000) (hin : ∀ x ∈ b :: l, in4 x) (H : List (List Blk)) : CallEq X H 61 [.d (encI (b :: l)), .func (.func 60) [pSt s] []] (.d (.int .i64 (maxF s b l))) [] := by
  refine callEq_of_body X_ok rfl Tryz.func61 rfl ?_
  conv => whnf
  refine And.intro (fun h0 => by simp at h0; omega) (fun h0 => ?_)
  conv => whnf
  refine ⟨by decide, [.int .i64 b], rfl, rfl, ?_⟩
  conv => whnf
  refine loopV_of (fun s' : Nat × Int => ⟨[.d (encI (b :: l)), .func (.func 60) [pSt s] [], .any, .any, .any, .d (.int .i64 s'.2), .d (.int .i64 s'.1), .any, .any, .any, .any, .any, .any, .any, .any, .any, .any, .any, .any, .any, .any, .any, .any, .any, .any, .any, .any, .any, .any, .any, .any, .any, .any], []⟩)
    (fun s' => 1 ≤ s'.1 ∧ s'.1 ≤ l.length + 1 ∧ in4 s'.2 ∧ maxF s b l = maxF s s'.2 ((b :: l).drop s'.1)) (fun s' => l.length + 1 - s'.1) (1, b) [] ⟨Nat.le_refl _, by show 1 ≤ _; omega, hin b (List.mem_cons_self ..), rfl⟩ ?_ ?_
  · refine And.intro rfl (And.intro ?_ ?_)
    all_goals (repeat' (first | exact True.intro | exact rfl | refine And.intro ?_ ?_))
  · rintro ⟨k, m⟩ ⟨hk1, hk, hm, hidx⟩
    dsimp only at hk1 hk hm hidx
    conv => whnf
    refine And.intro (fun h_ => ?_) (fun h_ => ?_)
    · conv => whnf
      have hk' : k < (b :: l).length := by simp at h_; simp; omega
      obtain ⟨x, hx⟩ : ∃ x, (b :: l)[k]? = some x := ⟨_, List.getElem?_eq_getElem hk'⟩
      have fx : ((b :: l).map fun x => [DV.int .i64 x])[k]? = some [.int .i64 x] := by rw [List.getElem?_map, hx]; rfl
      have hst := maxF_step s m hx
      refine ⟨by omega, [.int .i64 x], fx, rfl, ?_⟩
      conv => whnf
      have hxi : in4 x := hin x (List.mem_of_getElem? hx)
      refine ⟨_, _, c72 s x m hxi hm _, True.intro, ?_⟩
      conv => whnf
      refine And.intro (fun q1 => ?_) (fun q1 => ?_)
      · conv => whnf
        refine ⟨by omega, [.int .i64 x], fx, rfl, ?_⟩
        conv => whnf
        intro z hz
        conv => whnf
        rw [wrap_small (by (first | omega | (dsimp only; omega) | (simp; done) | (simp; omega))) (by (first | omega | (dsimp only; omega) | (simp; done) | (simp; omega)))] at hz
        subst hz
        refine ⟨(k + 1, x), [], ⟨by show 1 ≤ k + 1; omega, by show k + 1 ≤ l.length + 1; simp at hk'; omega, hxi, ?_⟩, by show l.length + 1 - (k + 1) < l.length + 1 - k; simp at hk'; omega, And.intro rfl (And.intro ?_ ?_)⟩
        · show maxF s b l = maxF s x ((b :: l).drop (k + 1))
          rw [hidx, hst, q1]; rfl
        all_goals (repeat' (first | exact True.intro | exact rfl | refine And.intro ?_ ?_))
      · conv => whnf
        intro z hz
        conv => whnf
        rw [wrap_small (by (first | omega | (dsimp only; omega) | (simp; done) | (simp; omega))) (by (first | omega | (dsimp only; omega) | (simp; done) | (simp; omega)))] at hz
        subst hz
        refine ⟨(k + 1, m), [], ⟨by show 1 ≤ k + 1; omega, by show k + 1 ≤ l.length + 1; simp at hk'; omega, hm, ?_⟩, by show l.length + 1 - (k + 1) < l.length + 1 - k; simp at hk'; omega, And.intro rfl (And.intro ?_ ?_)⟩
        · show maxF s b l = maxF s m ((b :: l).drop (k + 1))
          rw [hidx, hst, show decide (yngr s x m > 0) = false from q1]; rfl
        all_goals (repeat' (first | exact True.intro | exact rfl | refine And.intro ?_ ?_))
    · conv => whnf
      have hk' : k = l.length + 1 := by simp at h_; omega
      refine ⟨[], rfl, ?_, True.intro⟩
      show DV.int .i64 m = .int .i64 (maxF s b l)
      rw [hidx, hk', show (b :: l).drop (l.length + 1) = [] from List.drop_length]; rfl
theorem stuck_in4 (w : Mat) : ∀ x ∈ stuckM w, in4 x := fun x hx => by
  unfold stuckM at hx
  rw [bitsL_mem] at hx
  obtain ⟨k, hk, hb⟩ := hx
  have := (List.getElem?_eq_some_iff.1 hb).1
  simp [diagL] at this
  unfold in4; omega
def victimM (s : Nat → Int) : List Int → Int × Bool
  | [] => (0, false)
  | b :: l => (maxF s b l, true)
theorem c30 (l : List (Int × Int)) (s : Nat → Int) (hl : l.length < 100000) (H : List (List Blk)) : CallEq X H 24 [.d (encE l), pSt s] (.tuple [.d (.int .i64 (victimM s (stuckM (waysM l))).1), .d (.bool (victimM s (stuckM (waysM l))).2)]) [] := by
  have h35 := fun H => c35 l hl H
  have hin := stuck_in4 (waysM l)
  have hlen : (stuckM (waysM l)).length ≤ 4 := bitsL_len _ _
  generalize stuckM (waysM l) = S at h35 hin hlen ⊢
  refine callEq_of_body X_ok rfl Tryz.func24 rfl ?_
  conv => whnf
  refine ⟨_, _, h35 _, True.intro, ?_⟩
  conv => whnf
  cases S with
  | nil =>
    refine And.intro (fun _ => ?_) (fun h => absurd h (by decide))
    conv => whnf
    exact ⟨[], rfl, (by (repeat' (first | exact True.intro | exact rfl | refine And.intro ?_ ?_))), True.intro⟩
  | cons b S =>
    refine And.intro (fun h => by simp at h; omega) (fun _ => ?_)
    conv => whnf
    refine ⟨_, _, c73 s b S (by simp at hlen; omega) hin _, True.intro, ?_⟩
    conv => whnf
    exact ⟨[], rfl, (by (repeat' (first | exact True.intro | exact rfl | refine And.intro ?_ ?_))), True.intro⟩
end Go.Proofs.Ve

/- Waiting: the document's victim. -/
set_option maxRecDepth 100000
set_option maxHeartbeats 4000000
set_option linter.all false
namespace Go.Proofs.Ve
open Go
def bestF (s : Nat → Int) : Int → List Int → Int
  | b, [] => b
  | b, x :: xs => bestF s (bif decide (s x.toNat ≥ s b.toNat) then x else b) xs
theorem bestF_step (s : Nat → Int) (b : Int) {l : List Int} {k : Nat} {x : Int} (h : l[k]? = some x) : bestF s b (l.drop k) = bestF s (bif decide (s x.toNat ≥ s b.toNat) then x else b) (l.drop (k + 1)) := by
  have hk := (List.getElem?_eq_some_iff.1 h).1
  rw [List.drop_eq_getElem_cons hk, (List.getElem?_eq_some_iff.1 h).2, bestF]
def rVictim (s : Nat → Int) : List Int → Int × Bool
  | [] => (0, false)
  | b :: l => (bestF s b l, true)
theorem c31 (l : List (Int × Int)) (s : Nat → Int) (hl : l.length < 100000) (H : List (List Blk)) : CallEq X H 27 [.d (encE l), pSt s] (.tuple [.d (.int .i64 (rVictim s (stuckM (reachM l))).1), .d (.bool (rVictim s (stuckM (reachM l))).2)]) [] := by
  have h36 := fun H => c36 l hl H
  have hin := stuck_in4 (reachM l)
  have hlen : (stuckM (reachM l)).length ≤ 4 := bitsL_len _ _
  generalize stuckM (reachM l) = S at h36 hin hlen ⊢
  refine callEq_of_body X_ok rfl Tryz.func27 rfl ?_
  conv => whnf
  refine ⟨_, _, h36 _, True.intro, ?_⟩
  conv => whnf
  cases S with
  | nil =>
    refine And.intro (fun _ => ?_) (fun h => absurd h (by decide))
    conv => whnf
    exact ⟨[], rfl, (by (repeat' (first | exact True.intro | exact rfl | refine And.intro ?_ ?_))), True.intro⟩
  | cons b S =>
    refine And.intro (fun h => by simp at h; omega) (fun _ => ?_)
    conv => whnf
    refine ⟨by decide, [.int .i64 b], rfl, rfl, ?_⟩
    conv => whnf
    refine loopV_of (fun s' : Nat × Int => ⟨[.any, .any, .any, .ptr 0 0 0, .any, .any, .d (encI (b :: S)), .d (.int .i64 s'.2), .d (.int .i64 s'.1), .any, .any, .any, .any, .any, .any, .any, .any, .any, .any, .any, .any, .any, .any, .any, .any, .any, .any, .any, .any, .any, .any, .any, .any, .any, .any, .any, .any, .any], [.box [.d (.int .i64 (s 0)), .d (.int .i64 (s 1)), .d (.int .i64 (s 2)), .d (.int .i64 (s 3))]]⟩)
      (fun s' => 1 ≤ s'.1 ∧ s'.1 ≤ S.length + 1 ∧ in4 s'.2 ∧ bestF s b S = bestF s s'.2 ((b :: S).drop s'.1)) (fun s' => S.length + 1 - s'.1) (1, b) [0] ⟨Nat.le_refl _, by show 1 ≤ _; omega, hin b (List.mem_cons_self ..), rfl⟩ ?_ ?_
    · refine And.intro rfl (And.intro ?_ ?_)
      all_goals (repeat' (first | exact True.intro | exact rfl | refine And.intro ?_ ?_))
    · rintro ⟨k, m⟩ ⟨hk1, hk, hm, hidx⟩
      dsimp only at hk1 hk hm hidx
      conv => whnf
      refine And.intro (fun h_ => ?_) (fun h_ => ?_)
      · conv => whnf
        have hk' : k < (b :: S).length := by simp at h_; simp; omega
        obtain ⟨x, hx⟩ : ∃ x, (b :: S)[k]? = some x := ⟨_, List.getElem?_eq_getElem hk'⟩
        have fx : ((b :: S).map fun x => [DV.int .i64 x])[k]? = some [.int .i64 x] := by rw [List.getElem?_map, hx]; rfl
        have hst := bestF_step s m hx
        have hxi : in4 x := hin x (List.mem_of_getElem? hx)
        have hb3 : S.length + 1 < 10 := by simp at hlen; omega
        have hk2 : k + 1 ≤ S.length + 1 := by simp at hk'; omega
        have next1 : decide (s x.toNat ≥ s m.toNat) = true → bestF s b S = bestF s x ((b :: S).drop (k + 1)) := fun h => by rw [hidx, hst, h]; rfl
        have next2 : decide (s x.toNat ≥ s m.toNat) = false → bestF s b S = bestF s m ((b :: S).drop (k + 1)) := fun h => by rw [hidx, hst, h]; rfl
        clear hst hidx hx
        refine ⟨by omega, [.int .i64 x], fx, rfl, ?_⟩
        conv => whnf
        rcases hxi with rfl | rfl | rfl | rfl <;> rcases hm with rfl | rfl | rfl | rfl
        all_goals
          refine ⟨by decide, by decide, _, rfl, ?_⟩
          conv => whnf
          refine ⟨by dsimp only; decide, by dsimp only; decide, _, rfl, ?_⟩
          conv => whnf
          refine And.intro (fun q1 => ?_) (fun q1 => ?_)
          · conv => whnf
            refine ⟨by omega, _, fx, rfl, ?_⟩
            conv => whnf
            intro z hz
            conv => whnf
            rw [wrap_small (by (first | omega | (dsimp only; omega) | (simp; done) | (simp; omega))) (by (first | omega | (dsimp only; omega) | (simp; done) | (simp; omega)))] at hz
            subst hz
            refine ⟨(k + 1, _), [0], ⟨by show 1 ≤ k + 1; omega, hk2, ?_, next1 q1⟩, by show S.length + 1 - (k + 1) < S.length + 1 - k; omega, And.intro rfl (And.intro ?_ ?_)⟩
            · unfold in4; omega
            all_goals (repeat' (first | exact True.intro | exact rfl | refine And.intro ?_ ?_))
          · conv => whnf
            intro z hz
            conv => whnf
            rw [wrap_small (by (first | omega | (dsimp only; omega) | (simp; done) | (simp; omega))) (by (first | omega | (dsimp only; omega) | (simp; done) | (simp; omega)))] at hz
            subst hz
            refine ⟨(k + 1, _), [0], ⟨by show 1 ≤ k + 1; omega, hk2, ?_, next2 q1⟩, by show S.length + 1 - (k + 1) < S.length + 1 - k; omega, And.intro rfl (And.intro ?_ ?_)⟩
            · unfold in4; omega
            all_goals (repeat' (first | exact True.intro | exact rfl | refine And.intro ?_ ?_))
      · conv => whnf
        have hk' : k = S.length + 1 := by simp at h_; omega
        refine ⟨[], rfl, ?_, True.intro⟩
        refine And.intro ?_ (by (repeat' (first | exact True.intro | exact rfl | refine And.intro ?_ ?_)))
        show DV.int .i64 m = .int .i64 (bestF s b S)
        rw [hidx, hk', show (b :: S).drop (S.length + 1) = [] from List.drop_length]; rfl
end Go.Proofs.Ve

/- Waiting: awake. -/
set_option maxRecDepth 100000
set_option linter.all false
namespace Go.Proofs.Ve
open Go
def lk (o m : Int) : Lock := ⟨o, false, pointS 0 [], m⟩
def kD : Locks := (eAsk k0 (lk 0 5)).1
def kE : Locks := (eAsk kD (lk 1 3)).1
def eEdgesO (l : Locks) (o : Nat) : List (Int × Int) := (eBlockers l o).map fun b => ((o : Int), b)
def eEdges (l : Locks) : List (Int × Int) := [] ++ eEdgesO l 0 ++ eEdgesO l 1 ++ eEdgesO l 2 ++ eEdgesO l 3
theorem eedges_eq (l : Locks) : edgesL l = eEdges l := by
  show [] ++ edgesO l 0 ++ edgesO l 1 ++ edgesO l 2 ++ edgesO l 3 = _
  unfold eEdges eEdgesO edgesO
  simp only [eblockers_eq]
theorem e33 (l : Locks) (hs : smallB l = true) (H : List (List Blk)) : CallEq X H 25 [pLocks l] (.d (encE (eEdges l))) [] := eedges_eq l ▸ c33 l (small_of hs).1 (small_of hs).2.1 H
end Go.Proofs.Ve

/- Plain laws of waiting: walks over four. -/
set_option maxRecDepth 100000
set_option linter.all false
namespace Go.Proofs.Ve
open Go
theorem upd_same (w : Mat) (i j : Nat) (b : Bool) : upd w i j b i j = b := by unfold upd; simp [Nat.beq_eq]
theorem upd_other (w : Mat) {i j a c : Nat} (b : Bool) (h : ¬ (a = i ∧ c = j)) : upd w i j b a c = w a c := by
  unfold upd
  cases h1 : Nat.beq a i && Nat.beq c j with
  | false => rfl
  | true => simp only [Bool.and_eq_true, Nat.beq_eq] at h1; exact absurd h1 h
theorem or_idem (a b : Bool) : (a || (a && b)) = a := by cases a <;> cases b <;> rfl
theorem or_idem' (a b : Bool) : (a || (b && a)) = a := by cases a <;> cases b <;> rfl
theorem row_eq (w : Mat) (o f : Nat) : ∀ (t a c : Nat), rowW o f t w a c = if a = f ∧ c < t then (w f c || (w f o && w o c)) else w a c
  | 0, a, c => by rw [if_neg (by omega)]; rfl
  | t + 1, a, c => by
    show stepW o f t (rowW o f t w) a c = _
    unfold stepW
    by_cases h : a = f ∧ c = t
    · obtain ⟨rfl, rfl⟩ := h
      have e1 : rowW o a c w a c = w a c := by rw [row_eq w o a c a c, if_neg (by omega)]
      have e2 : rowW o a c w o c = w o c := by rw [row_eq w o a c o c, if_neg (by omega)]
      have e3 : rowW o a c w a o = w a o := by
        rw [row_eq w o a c a o]
        split
        · exact or_idem _ _
        · rfl
      rw [upd_same, if_pos ⟨rfl, by omega⟩, e1, e2, e3]
    · rw [upd_other _ _ h, row_eq w o f t a c]
      by_cases h2 : a = f ∧ c < t
      · rw [if_pos h2, if_pos (by omega)]
      · rw [if_neg h2, if_neg (by omega)]
theorem col_eq (w : Mat) (o : Nat) (ho : o < 4) : ∀ (f a c : Nat), c < 4 → colW o f w a c = if a < f then (w a c || (w a o && w o c)) else w a c
  | 0, a, c, _ => by rw [if_neg (by omega)]; rfl
  | f + 1, a, c, hc => by
    show rowW o f 4 (colW o f w) a c = _
    rw [row_eq]
    by_cases h : a = f
    · subst h
      have e1 : colW o a w a c = w a c := by rw [col_eq w o ho a a c hc, if_neg (by omega)]
      have e2 : colW o a w o c = w o c := by
        rw [col_eq w o ho a o c hc]
        split
        · exact or_idem' _ _
        · rfl
      have e3 : colW o a w a o = w a o := by rw [col_eq w o ho a a o ho, if_neg (by omega)]
      rw [if_pos ⟨rfl, hc⟩, if_pos (by omega), e1, e2, e3]
    · rw [if_neg (by omega), col_eq w o ho f a c hc]
      by_cases h2 : a < f
      · rw [if_pos h2, if_pos (by omega)]
      · rw [if_neg h2, if_neg (by omega)]
theorem all_step (w : Mat) {o i j : Nat} (ho : o < 4) (hi : i < 4) (hj : j < 4) : allW (o + 1) w i j = (allW o w i j || (allW o w i o && allW o w o j)) := by
  show colW o 4 (allW o w) i j = _
  rw [col_eq _ o ho 4 i j hj, if_pos hi]
theorem all_trans (w : Mat) : ∀ k, k ≤ 4 → ∀ m, m < k → ∀ i j, i < 4 → j < 4 → allW k w i m = true → allW k w m j = true → allW k w i j = true
  | 0, _, m, hm, _, _, _, _, _, _ => by omega
  | k + 1, hk, m, hm, i, j, hi, hj, h1, h2 => by
    have ih := all_trans w k (by omega)
    rw [all_step w (by omega) hi (by omega)] at h1
    rw [all_step w (by omega) (by omega) hj] at h2
    rw [all_step w (by omega) hi hj]
    generalize allW k w = W at ih h1 h2 ⊢
    simp only [Bool.or_eq_true, Bool.and_eq_true] at h1 h2 ⊢
    rcases Nat.lt_or_ge m k with hmk | hmk
    · rcases h1 with h1 | ⟨h1, h1'⟩ <;> rcases h2 with h2 | ⟨h2, h2'⟩
      · exact .inl (ih m hmk i j hi hj h1 h2)
      · exact .inr ⟨ih m hmk i k hi (by omega) h1 h2, h2'⟩
      · exact .inr ⟨h1, ih m hmk k j (by omega) hj h1' h2⟩
      · exact .inr ⟨h1, h2'⟩
    · have : m = k := by omega
      subst this
      exact .inr ⟨h1.elim id (·.1), h2.elim id (·.2)⟩
theorem all_more (w : Mat) : ∀ k, k ≤ 4 → ∀ i j, i < 4 → j < 4 → w i j = true → allW k w i j = true
  | 0, _, _, _, _, _, h => h
  | k + 1, hk, i, j, hi, hj, h => by
    rw [all_step w (by omega) hi hj, all_more w k (by omega) i j hi hj h]; rfl
/-- A way of n steps and one. -/
inductive Way (A : Mat) : Nat → Nat → Nat → Prop
  | one {i j : Nat} (hi : i < 4) (hj : j < 4) (h : A i j = true) : Way A 1 i j
  | step {n i k j : Nat} (hi : i < 4) (hk : k < 4) (h : A i k = true) (w : Way A n k j) : Way A (n + 1) i j
theorem Way.lt {A : Mat} {n i j : Nat} (h : Way A n i j) : i < 4 ∧ j < 4 := by
  induction h with
  | one hi hj _ => exact ⟨hi, hj⟩
  | step hi hk _ _ ih => exact ⟨hi, ih.2⟩
theorem Way.app {A : Mat} {n m i k j : Nat} (h : Way A n i k) (g : Way A m k j) : Way A (n + m) i j := by
  induction h with
  | one hi hj h => rw [Nat.add_comm]; exact .step hi hj h g
  | step hi hk h _ ih => rw [Nat.add_right_comm]; exact .step hi hk h (ih g)
theorem way_all {A : Mat} {n i j : Nat} (h : Way A n i j) : allW 4 A i j = true := by
  induction h with
  | one hi hj h => exact all_more A 4 (by omega) _ _ hi hj h
  | step hi hk h w ih => exact all_trans A 4 (by omega) _ hk _ _ hi w.lt.2 (all_more A 4 (by omega) _ _ hi hk h) ih
theorem all_way (A : Mat) : ∀ k, k ≤ 4 → ∀ i j, i < 4 → j < 4 → allW k A i j = true → ∃ n, Way A n i j
  | 0, _, i, j, hi, hj, h => ⟨1, .one hi hj h⟩
  | k + 1, hk, i, j, hi, hj, h => by
    rw [all_step A (by omega) hi hj, Bool.or_eq_true, Bool.and_eq_true] at h
    rcases h with h | ⟨h1, h2⟩
    · exact all_way A k (by omega) i j hi hj h
    · obtain ⟨n, hn⟩ := all_way A k (by omega) i k hi (by omega) h1
      obtain ⟨m, hm⟩ := all_way A k (by omega) k j (by omega) hj h2
      exact ⟨n + m, hn.app hm⟩
end Go.Proofs.Ve

/- Plain laws of waiting: the edges' matrix. -/
set_option maxRecDepth 100000
set_option linter.all false
namespace Go.Proofs.Ve
open Go
theorem addE_iff (w : Mat) (e : Int × Int) {i j : Nat} (hi : i < 4) (hj : j < 4) : addE w e i j = true ↔ w i j = true ∨ e = ((i : Int), (j : Int)) := by
  unfold addE
  obtain ⟨a, b⟩ := e
  cases h : wIs a && wIs b with
  | false =>
    simp only [cond_false]
    constructor
    · exact .inl
    · rintro (h1 | h1)
      · exact h1
      · simp only [Prod.mk.injEq] at h1
        obtain ⟨rfl, rfl⟩ := h1
        unfold wIs at h; simp at h; omega
  | true =>
    simp only [cond_true]
    have hh : (0 ≤ a ∧ a < 4) ∧ (0 ≤ b ∧ b < 4) := by unfold wIs at h; simpa using h
    by_cases h2 : i = a.toNat ∧ j = b.toNat
    · obtain ⟨rfl, rfl⟩ := h2
      rw [upd_same]
      simp only [true_iff]
      exact .inr (by rw [Prod.mk.injEq]; omega)
    · rw [upd_other _ _ h2]
      constructor
      · exact .inl
      · rintro (h1 | h1)
        · exact h1
        · simp only [Prod.mk.injEq] at h1
          exact absurd ⟨by omega, by omega⟩ h2
theorem edgesM_iff (l : List (Int × Int)) {i j : Nat} (hi : i < 4) (hj : j < 4) : edgesM l i j = true ↔ ((i : Int), (j : Int)) ∈ l := by
  have key : ∀ (l : List (Int × Int)) (w : Mat), l.foldl addE w i j = true ↔ w i j = true ∨ ((i : Int), (j : Int)) ∈ l := by
    intro l
    induction l with
    | nil => intro w; simp
    | cons e l ih =>
      intro w
      rw [List.foldl_cons, ih, addE_iff w e hi hj, List.mem_cons, or_assoc, eq_comm (a := e)]
  unfold edgesM
  rw [key]; simp
theorem orTo_iff (r s : Vec) : ∀ (j k : Nat), orTo r s j k = true ↔ r k = true ∨ (k < j ∧ s k = true)
  | 0, k => by simp [orTo]
  | j + 1, k => by
    show setV (orTo r s j) j (orTo r s j j || s j) k = true ↔ _
    unfold setV
    cases h : Nat.beq k j with
    | true =>
      have := Nat.eq_of_beq_eq_true h
      subst this
      rw [cond_true, Bool.or_eq_true, orTo_iff r s k k]
      constructor
      · rintro ((h1 | h1) | h1)
        · exact .inl h1
        · omega
        · exact .inr ⟨by omega, h1⟩
      · rintro (h1 | h1)
        · exact .inl (.inl h1)
        · exact .inr h1.2
    | false =>
      have : k ≠ j := fun hk => by rw [hk] at h; simp at h
      rw [cond_false, orTo_iff r s j k]
      constructor
      · rintro (h1 | h1)
        · exact .inl h1
        · exact .inr ⟨by omega, h1.2⟩
      · rintro (h1 | h1)
        · exact .inl h1
        · exact .inr ⟨by omega, h1.2⟩
end Go.Proofs.Ve

/- Plain laws of waiting: reach. -/
set_option maxRecDepth 100000
set_option linter.all false
namespace Go.Proofs.Ve
open Go
theorem Way.pos {A : Mat} {n i j : Nat} (h : Way A n i j) : 0 < n := by cases h <;> omega
theorem Way.inv {A : Mat} {n i j : Nat} (h : Way A (n + 1) i j) : ∃ k, i < 4 ∧ k < 4 ∧ A i k = true ∧ (k = j ∨ Way A n k j) := by
  generalize hm : n + 1 = m at h
  cases h with
  | one hi hj h => exact ⟨j, hi, hj, h, .inl rfl⟩
  | step hi hk h w =>
    have : n = _ := Nat.succ.inj hm
    subst this
    exact ⟨_, hi, hk, h, .inr w⟩
theorem reach_fold (l : List (Int × Int)) (n : Nat) (f : Int) (j : Nat) (hj : j < 4) : ∀ (E : List (Int × Int)) (r : Vec),
    E.foldl (fun out e => bif skipE f e then out else orTo (setV out e.2.toNat true) (reachF l n e.2) 4) r j = true ↔ r j = true ∨ ∃ e ∈ E, skipE f e = false ∧ (j = e.2.toNat ∨ reachF l n e.2 j = true) := by
  intro E
  induction E with
  | nil => intro r; simp
  | cons e E ih =>
    intro r
    rw [List.foldl_cons, ih]
    cases hs : skipE f e with
    | true =>
      rw [cond_true]
      constructor
      · rintro (h | ⟨x, hx, h⟩)
        · exact .inl h
        · exact .inr ⟨x, List.mem_cons_of_mem _ hx, h⟩
      · rintro (h | ⟨x, hx, h1, h2⟩)
        · exact .inl h
        · rcases List.mem_cons.1 hx with rfl | hx
          · rw [hs] at h1; cases h1
          · exact .inr ⟨x, hx, h1, h2⟩
    | false =>
      rw [cond_false, orTo_iff]
      have hset : setV r e.2.toNat true j = true ↔ j = e.2.toNat ∨ r j = true := by
        unfold setV
        cases h : Nat.beq j e.2.toNat with
        | true => simp [Nat.eq_of_beq_eq_true h]
        | false =>
          have : j ≠ e.2.toNat := fun hk => by rw [hk] at h; simp at h
          simp [this]
      rw [hset]
      constructor
      · rintro (((h | h) | h) | ⟨x, hx, h⟩)
        · exact .inr ⟨e, List.mem_cons_self .., hs, .inl h⟩
        · exact .inl h
        · exact .inr ⟨e, List.mem_cons_self .., hs, .inr h.2⟩
        · exact .inr ⟨x, List.mem_cons_of_mem _ hx, h⟩
      · rintro (h | ⟨x, hx, h1, h2⟩)
        · exact .inl (.inl (.inr h))
        · rcases List.mem_cons.1 hx with rfl | hx
          · rcases h2 with h2 | h2
            · exact .inl (.inl (.inl h2))
            · exact .inl (.inr ⟨hj, h2⟩)
          · exact .inr ⟨x, hx, h1, h2⟩
theorem reach_iff (l : List (Int × Int)) : ∀ (n f j : Nat), f < 4 → j < 4 → (reachF l n f j = true ↔ ∃ m, m ≤ n ∧ Way (edgesM l) m f j)
  | 0, f, j, _, _ => by
    constructor
    · intro h; cases h
    · rintro ⟨m, hm, h⟩; have := h.pos; omega
  | n + 1, f, j, hf, hj => by
    show (l.foldl (fun (out : Vec) (e : Int × Int) => bif skipE f e then out else orTo (setV out e.2.toNat true) (reachF l n e.2) 4) (fun _ => false)) j = true ↔ _
    rw [reach_fold l n f j hj]
    constructor
    · rintro (h | ⟨⟨a, b⟩, he, hs, h⟩)
      · cases h
      · unfold skipE at hs
        simp at hs
        obtain ⟨h1, h2, h3⟩ := hs
        obtain ⟨k, rfl⟩ : ∃ k : Nat, b = k := ⟨b.toNat, by omega⟩
        subst h1
        have hk : k < 4 := by omega
        have hA := (edgesM_iff l hf hk).2 he
        rcases h with h | h
        · simp at h; subst h
          exact ⟨1, by omega, .one hf hk hA⟩
        · obtain ⟨m, hm, hw⟩ := (reach_iff l n k j hk hj).1 h
          exact ⟨m + 1, by omega, .step hf hk hA hw⟩
    · rintro ⟨m, hm, h⟩
      have := h.pos
      obtain ⟨m, rfl⟩ : ∃ m', m = m' + 1 := ⟨m - 1, by omega⟩
      obtain ⟨k, _, hk, hA, hw⟩ := h.inv
      refine .inr ⟨((f : Int), (k : Int)), (edgesM_iff l hf hk).1 hA, by unfold skipE; simp; omega, ?_⟩
      rcases hw with rfl | hw
      · exact .inl (by simp)
      · exact .inr ((reach_iff l n k j hk hj).2 ⟨m, by omega, hw⟩)
end Go.Proofs.Ve

/- Plain laws of waiting: four steps are enough. -/
set_option maxRecDepth 100000
set_option linter.all false
namespace Go.Proofs.Ve
open Go
theorem lt4' {i : Nat} (h : i < 4) : i = 0 ∨ i = 1 ∨ i = 2 ∨ i = 3 := by omega
theorem Way.last {A : Mat} : ∀ {n i j : Nat}, Way A (n + 2) i j → ∃ k, k < 4 ∧ Way A (n + 1) i k ∧ A k j = true
  | 0, i, j, h => by
    obtain ⟨k, hi, hk, hA, hw⟩ := h.inv
    rcases hw with rfl | hw
    · cases h with
      | step hi' hk' hA' w =>
        obtain ⟨k2, _, _, hA2, hw2⟩ := w.inv
        rcases hw2 with rfl | hw2
        · exact ⟨_, hk', .one hi' hk' hA', hA2⟩
        · have := hw2.pos; omega
    · obtain ⟨k2, _, _, hA2, hw2⟩ := hw.inv
      rcases hw2 with rfl | hw2
      · exact ⟨k, hk, .one hi hk hA, hA2⟩
      · have := hw2.pos; omega
  | n + 1, i, j, h => by
    cases h with
    | step hi hk hA w =>
      obtain ⟨k2, hk2, hw2, hA2⟩ := Way.last w
      exact ⟨k2, hk2, .step hi hk hA hw2, hA2⟩
theorem reach_mono (l : List (Int × Int)) {n i j : Nat} (hi : i < 4) (hj : j < 4) (h : reachF l n i j = true) : reachF l (n + 1) i j = true := by
  obtain ⟨m, hm, w⟩ := (reach_iff l n i j hi hj).1 h
  exact (reach_iff l (n + 1) i j hi hj).2 ⟨m, by omega, w⟩
theorem reach_stable (l : List (Int × Int)) {n i : Nat} (hi : i < 4) (h : ∀ j, j < 4 → reachF l (n + 1) i j = true → reachF l n i j = true) : ∀ j, j < 4 → reachF l (n + 2) i j = true → reachF l (n + 1) i j = true := by
  intro j hj h2
  obtain ⟨m, hm, w⟩ := (reach_iff l (n + 2) i j hi hj).1 h2
  rcases Nat.lt_or_ge m (n + 2) with h3 | h3
  · exact (reach_iff l (n + 1) i j hi hj).2 ⟨m, by omega, w⟩
  · have : m = n + 2 := by omega
    subst this
    obtain ⟨k, hk, w1, hA⟩ := w.last
    obtain ⟨m', hm', w'⟩ := (reach_iff l n i k hi hk).1 (h k hk ((reach_iff l (n + 1) i k hi hk).2 ⟨n + 1, Nat.le_refl _, w1⟩))
    exact (reach_iff l (n + 1) i j hi hj).2 ⟨m' + 1, by omega, w'.app (.one hk hj hA)⟩
def cnt (r : Vec) : Nat := (r 0).toNat + (r 1).toNat + (r 2).toNat + (r 3).toNat
theorem cnt_le (r : Vec) : cnt r ≤ 4 := by
  unfold cnt; cases r 0 <;> cases r 1 <;> cases r 2 <;> cases r 3 <;> decide
theorem cnt_grow {r s : Vec} (h : ∀ j, j < 4 → r j = true → s j = true) (hn : ¬ ∀ j, j < 4 → s j = true → r j = true) : cnt r + 1 ≤ cnt s := by
  have h0 := h 0 (by omega); have h1 := h 1 (by omega); have h2 := h 2 (by omega); have h3 := h 3 (by omega)
  have hn' : ¬ ((s 0 = true → r 0 = true) ∧ (s 1 = true → r 1 = true) ∧ (s 2 = true → r 2 = true) ∧ (s 3 = true → r 3 = true)) := fun ⟨a, b, c, d⟩ => hn fun j hj => by
    rcases lt4' hj with rfl | rfl | rfl | rfl <;> assumption
  unfold cnt
  cases e0 : r 0 <;> cases e1 : r 1 <;> cases e2 : r 2 <;> cases e3 : r 3 <;> cases f0 : s 0 <;> cases f1 : s 1 <;> cases f2 : s 2 <;> cases f3 : s 3 <;> simp_all
theorem reach_four (l : List (Int × Int)) {i : Nat} (hi : i < 4) : ∀ j, j < 4 → reachF l 5 i j = true → reachF l 4 i j = true := by
  apply Classical.byContradiction
  intro hn
  have mono := fun n j hj h => reach_mono l (n := n) (j := j) hi hj h
  have n3 := fun h => hn (reach_stable l hi h)
  have n2 := fun h => n3 (reach_stable l hi h)
  have n1 := fun h => n2 (reach_stable l hi h)
  have n0 := fun h => n1 (reach_stable l hi h)
  have c4 : cnt (reachF l 4 i) + 1 ≤ cnt (reachF l 5 i) := cnt_grow (mono 4) hn
  have c3 : cnt (reachF l 3 i) + 1 ≤ cnt (reachF l 4 i) := cnt_grow (mono 3) n3
  have c2 : cnt (reachF l 2 i) + 1 ≤ cnt (reachF l 3 i) := cnt_grow (mono 2) n2
  have c1 : cnt (reachF l 1 i) + 1 ≤ cnt (reachF l 2 i) := cnt_grow (mono 1) n1
  have c0 : cnt (reachF l 0 i) + 1 ≤ cnt (reachF l 1 i) := cnt_grow (mono 0) n0
  have := cnt_le (reachF l 5 i)
  omega
end Go.Proofs.Ve

/- Plain laws of waiting: who is stuck, by either way. -/
set_option maxRecDepth 100000
set_option linter.all false
namespace Go.Proofs.Ve
open Go
theorem way_four (l : List (Int × Int)) {i : Nat} (hi : i < 4) : ∀ (n j : Nat), Way (edgesM l) n i j → reachF l 4 i j = true := by
  intro n
  induction n using Nat.strongRecOn with
  | _ n ih =>
    intro j h
    have hj := h.lt.2
    rcases Nat.lt_or_ge n 5 with hn | hn
    · exact (reach_iff l 4 i j hi hj).2 ⟨n, by omega, h⟩
    · obtain ⟨m, rfl⟩ : ∃ m, n = m + 2 := ⟨n - 2, by omega⟩
      obtain ⟨k, hk, w, hA⟩ := h.last
      obtain ⟨p, hp, w'⟩ := (reach_iff l 4 i k hi hk).1 (ih (m + 1) (by omega) k w)
      exact reach_four l hi j hj ((reach_iff l 5 i j hi hj).2 ⟨p + 1, by omega, w'.app (.one hk hj hA)⟩)
theorem ways_reach (l : List (Int × Int)) {i j : Nat} (hi : i < 4) (hj : j < 4) : waysM l i j = reachM l i j := by
  rw [Bool.eq_iff_iff]
  constructor
  · intro h
    obtain ⟨n, w⟩ := all_way (edgesM l) 4 (by omega) i j hi hj h
    exact way_four l hi n j w
  · intro h
    obtain ⟨m, _, w⟩ := (reach_iff l 4 i j hi hj).1 h
    exact way_all w
theorem stuck_eq (l : List (Int × Int)) : stuckM (waysM l) = stuckM (reachM l) := by
  unfold stuckM diagL
  rw [ways_reach l (i := 0) (j := 0) (by omega) (by omega), ways_reach l (i := 1) (j := 1) (by omega) (by omega), ways_reach l (i := 2) (j := 2) (by omega) (by omega), ways_reach l (i := 3) (j := 3) (by omega) (by omega)]
end Go.Proofs.Ve

/- Plain laws of waiting: the victim, by either way. -/
set_option maxRecDepth 100000
set_option linter.all false
namespace Go.Proofs.Ve
open Go
theorem victim_F (s : Nat → Int) : ∀ (xs : List Int) (b : Int), (b :: xs).Pairwise (· < ·) → maxF s b xs = bestF s b xs
  | [], b, _ => rfl
  | x :: xs, b, h => by
    rw [maxF, bestF]
    rw [List.pairwise_cons] at h
    have hbx := h.1 x (List.mem_cons_self ..)
    have hy : decide (yngr s x b > 0) = decide (s x.toNat ≥ s b.toNat) := by
      unfold yngr
      by_cases h1 : s x.toNat < s b.toNat
      · simp [h1]
      · by_cases h2 : s x.toNat > s b.toNat
        · simp [h1, h2]; omega
        · simp [h1, h2]; omega
    rw [hy]
    cases hc : decide (s x.toNat ≥ s b.toNat) with
    | true => exact victim_F s xs x h.2
    | false =>
      refine victim_F s xs b ?_
      rw [List.pairwise_cons]
      exact ⟨fun y hy => h.1 y (List.mem_cons_of_mem _ hy), (List.pairwise_cons.1 h.2).2⟩
theorem victim_eq (s : Nat → Int) (w : Mat) : victimM s (stuckM w) = rVictim s (stuckM w) := by
  have ha : Asc (stuckM w) := bitsL_asc _ _
  generalize stuckM w = S at ha
  cases S with
  | nil => rfl
  | cons b S => show (maxF s b S, true) = (bestF s b S, true); rw [victim_F s S b ha]
end Go.Proofs.Ve

/- WaitTells: its body tells true. -/
set_option maxRecDepth 100000
set_option linter.all false
namespace Go.Proofs.Ve
open Go
end Go.Proofs.Ve

/- Plain laws of waiting: more edges, fewer edges. -/
set_option maxRecDepth 100000
set_option linter.all false
namespace Go.Proofs.Ve
open Go
theorem Way.mono {A B : Mat} (h : ∀ i j, i < 4 → j < 4 → A i j = true → B i j = true) {n i j : Nat} (w : Way A n i j) : Way B n i j := by
  induction w with
  | one hi hj ha => exact .one hi hj (h _ _ hi hj ha)
  | step hi hk ha w ih => exact .step hi hk (h _ _ hi hk ha) ih
theorem ways_iff (l : List (Int × Int)) {i j : Nat} (hi : i < 4) (hj : j < 4) : waysM l i j = true ↔ ∃ n, Way (edgesM l) n i j :=
  ⟨fun h => all_way (edgesM l) 4 (by omega) i j hi hj h, fun ⟨n, w⟩ => way_all w⟩
theorem ways_mono {l m : List (Int × Int)} (h : ∀ i j : Nat, i < 4 → j < 4 → ((i : Int), (j : Int)) ∈ l → ((i : Int), (j : Int)) ∈ m) {i j : Nat} (hi : i < 4) (hj : j < 4) (hw : waysM l i j = true) : waysM m i j = true := by
  obtain ⟨n, w⟩ := (ways_iff l hi hj).1 hw
  exact (ways_iff m hi hj).2 ⟨n, w.mono fun a b ha hb hl => (edgesM_iff m ha hb).2 (h a b ha hb ((edgesM_iff l ha hb).1 hl))⟩
theorem stuck_mem (w : Mat) (x : Int) : x ∈ stuckM w ↔ ∃ i : Nat, i < 4 ∧ x = i ∧ w i i = true := by
  unfold stuckM
  rw [bitsL_mem]
  constructor
  · rintro ⟨k, rfl, hk⟩
    have hk4 : k < 4 := by have := (List.getElem?_eq_some_iff.1 hk).1; simpa [diagL] using this
    refine ⟨k, hk4, by omega, ?_⟩
    match k, hk4 with
    | 0, _ => simpa [diagL] using hk
    | 1, _ => simpa [diagL] using hk
    | 2, _ => simpa [diagL] using hk
    | 3, _ => simpa [diagL] using hk
  · rintro ⟨i, hi, rfl, h⟩
    refine ⟨i, by omega, ?_⟩
    match i, hi with
    | 0, _ => simp [diagL, h]
    | 1, _ => simp [diagL, h]
    | 2, _ => simp [diagL, h]
    | 3, _ => simp [diagL, h]
theorem stuck_mono {l m : List (Int × Int)} (h : ∀ i j : Nat, i < 4 → j < 4 → ((i : Int), (j : Int)) ∈ l → ((i : Int), (j : Int)) ∈ m) : ∀ x ∈ stuckM (waysM l), x ∈ stuckM (waysM m) := fun x hx => by
  obtain ⟨i, hi, rfl, hw⟩ := (stuck_mem _ _).1 hx
  exact (stuck_mem _ _).2 ⟨i, hi, rfl, ways_mono h hi hi hw⟩
theorem stuck_comm (l m : List (Int × Int)) : stuckM (waysM (l ++ m)) = stuckM (waysM (m ++ l)) := by
  have h : ∀ i, i < 4 → waysM (l ++ m) i i = waysM (m ++ l) i i := fun i hi => by
    rw [Bool.eq_iff_iff]
    exact ⟨ways_mono (fun a b _ _ h => by rw [List.mem_append] at h ⊢; exact h.symm) hi hi, ways_mono (fun a b _ _ h => by rw [List.mem_append] at h ⊢; exact h.symm) hi hi⟩
  unfold stuckM diagL
  rw [h 0 (by omega), h 1 (by omega), h 2 (by omega), h 3 (by omega)]
/-- without the edges of one nobody is stuck there -/
theorem stuck_none {l : List (Int × Int)} {w : Int} (h : ∀ e ∈ l, e.1 ≠ w) : w ∉ stuckM (waysM l) := fun hx => by
  obtain ⟨i, hi, rfl, hw⟩ := (stuck_mem _ _).1 hx
  obtain ⟨n, W⟩ := (ways_iff l hi hi).1 hw
  have : ∃ k, k < 4 ∧ edgesM l i k = true := by
    cases W with
    | one _ hj ha => exact ⟨_, hj, ha⟩
    | step _ hk ha _ => exact ⟨_, hk, ha⟩
  obtain ⟨k, hk, ha⟩ := this
  exact h _ ((edgesM_iff l hi hk).1 ha) rfl
end Go.Proofs.Ve

/- WaitMore: its body tells true. -/
set_option maxRecDepth 100000
set_option maxHeartbeats 4000000
set_option linter.all false
namespace Go.Proofs.Ve
open Go
theorem takeE (a b : List (Int × Int)) : DV.sl (List.take (0 + (a.map cEdge).length + (b.map cEdge).length) ([] ++ a.map cEdge ++ b.map cEdge)) = encE (a ++ b) := by
  rw [List.take_of_length_le (by simp)]; simp [encE]
theorem takeI (l : List Int) : DV.sl (List.take l.length (rowI l)) = encI l := by
  rw [List.take_of_length_le (by simp [rowI])]; rfl
def outE (w : Int) (l : List (Int × Int)) : List (Int × Int) := l.filter fun x => x.1 != w
theorem outE_step (w : Int) {l : List (Int × Int)} {k : Nat} {x : Int × Int} (h : l[k]? = some x) : outE w (l.take (k + 1)) = outE w (l.take k) ++ bif x.1 != w then [x] else [] := by
  unfold outE
  rw [take_snoc' h, List.filter_append]
  cases hx : x.1 != w <;> simp [hx]
theorem outE_len (w : Int) (l : List (Int × Int)) : (outE w l).length ≤ l.length := List.length_filter_le _ _
theorem outE_ne (w : Int) (l : List (Int × Int)) : ∀ x ∈ outE w l, x.1 ≠ w := fun x hx => by
  have := (List.mem_filter.1 hx).2; simpa using this
def hasS (h : Nat → Bool) (x : Nat) : Nat → Bool := fun i => bif Nat.beq i x then true else h i
def hasB (h : Nat → Bool) : Blk := .box [.d (.bool (h 0)), .d (.bool (h 1)), .d (.bool (h 2)), .d (.bool (h 3))]
end Go.Proofs.Ve

/- Plain laws of Ask and Drop: what may be, may be behind them. -/
set_option maxRecDepth 100000
set_option linter.all false
namespace Go.Proofs.Ve
open Go
/-! ### modes -/
def ms : List Int := [1, 2, 3, 4, 5]
theorem mIs_mem {m : Int} (h : mIs m = true) : m ∈ ms := by
  rcases mIs_cases h with rfl | rfl | rfl | rfl | rfl <;> decide
theorem join_tab : ∀ a ∈ ms, ∀ b ∈ ms, (mIs (mJoin a b) && (mCovers (mJoin a b) a && mCovers (mJoin a b) b)) = true := by decide
theorem fits_tab : ∀ y ∈ ms, ∀ a ∈ ms, ∀ b ∈ ms, (!mCovers a b || (!mFits y a || mFits y b)) = true := by decide
theorem flip_tab : ∀ a ∈ ms, ∀ b ∈ ms, (mFits a b == mFits b a) = true := by decide
theorem covers_is {a b : Int} (h : mCovers a b = true) : mIs a = true ∧ mIs b = true := by
  unfold mCovers at h
  cases ha : mIs a <;> cases hb : mIs b <;> simp_all
theorem join_is {a b : Int} (ha : mIs a = true) (hb : mIs b = true) : mIs (mJoin a b) = true ∧ mCovers (mJoin a b) a = true ∧ mCovers (mJoin a b) b = true := by
  have := join_tab a (mIs_mem ha) b (mIs_mem hb)
  simpa using this
theorem fits_is {a b : Int} (h : mFits a b = true) : mIs a = true ∧ mIs b = true := by
  unfold mFits at h
  cases ha : mIs a <;> cases hb : mIs b <;> simp_all
theorem fits_cov {y a b : Int} (hc : mCovers a b = true) (h : mFits y a = true) : mFits y b = true := by
  have := fits_tab y (mIs_mem (fits_is h).1) a (mIs_mem (covers_is hc).1) b (mIs_mem (covers_is hc).2)
  rw [hc, h] at this; simpa using this
theorem fits_flip (a b : Int) : mFits a b = mFits b a := by
  cases ha : mIs a with
  | false => unfold mFits; rw [ha]; simp
  | true =>
    cases hb : mIs b with
    | false => unfold mFits; rw [hb]; simp
    | true => simpa using flip_tab a (mIs_mem ha) b (mIs_mem hb)
/-! ### clashes -/
theorem meets_flip (a b : Span) : sMeets a b = sMeets b a := by
  rw [meets_eq, meets_eq]
  unfold rMeets
  cases h : (a.t == b.t) with
  | false => rw [show (b.t == a.t) = false by rw [Bool.beq_comm]; exact h]; rfl
  | true =>
    have : a.t = b.t := by simpa using h
    rw [show (b.t == a.t) = true by rw [Bool.beq_comm]; exact h, this]
    simp [Bool.or_comm]
theorem clash_flip (a b : Lock) : lClash a b = lClash b a := by
  unfold lClash
  have e1 : (a.owner == b.owner) = (b.owner == a.owner) := Bool.beq_comm
  have e2 : (a.span.t != b.span.t) = (b.span.t != a.span.t) := by unfold bne; rw [Bool.beq_comm]
  have e3 : (a.whole == b.whole) = (b.whole == a.whole) := Bool.beq_comm
  rw [meets_flip a.span b.span, e1, e2, e3, fits_flip a.mode b.mode, Bool.or_comm (a.mode == 5)]
  cases h : (b.owner == a.owner || (b.span.t != a.span.t || !(b.whole == a.whole))) with
  | true => rw [if_pos rfl, if_pos rfl]
  | false =>
    have : a.whole = b.whole := by simp at h; exact h.2.2.symm
    rw [this]
/-- At least as much, of one owner. -/
def covL (a b : Lock) : Prop := a = b ∨ (a.whole = true ∧ b.whole = true ∧ a.owner = b.owner ∧ a.span.t = b.span.t ∧ mCovers a.mode b.mode = true)
theorem clash_cov {a b z : Lock} (h : covL a b) (hc : lClash z b = true) : lClash z a = true := by
  rcases h with rfl | ⟨h1, h2, h3, h4, h5⟩
  · exact hc
  · unfold lClash at hc ⊢
    rw [h1, h3, h4]
    rw [h2] at hc
    cases hz : z.whole with
    | false => rw [hz] at hc; simp at hc
    | true =>
      rw [hz] at hc
      split at hc
      · cases hc
      · next hn =>
        rw [if_neg hn]
        simp only [if_true] at hc ⊢
        cases hf : mFits z.mode a.mode with
        | false => rfl
        | true => rw [fits_cov h5 hf] at hc; cases hc
theorem clash_cov' {a b z : Lock} (h : covL a b) (hc : lClash b z = true) : lClash a z = true := by
  rw [clash_flip] at hc ⊢; exact clash_cov h hc
/-! ### what Check says -/
structure Ok (l : Locks) : Prop where
  size : l.held.length + l.queue.length ≤ 40
  may1 : ∀ y ∈ l.held, lMay y = true
  may2 : ∀ y ∈ l.queue, lMay y = true
  own : l.queue.Pairwise fun a b => a.owner ≠ b.owner
  wait : ∀ (k : Nat) y, l.queue[k]? = some y → ∃ z ∈ l.held ++ l.queue.take k, lClash z y = true
  single : l.held.Pairwise fun a b => lTwice b a = false
  weak : ∀ y ∈ l.queue, ∀ h ∈ l.held, lWeak y h = false
theorem ahead_pos (l : Locks) (x : Lock) (k : Nat) : decide (((lAhead l x k).length : Int) > 0) = (l.held ++ l.queue.take k).any fun z => lClash z x := by
  rw [Bool.eq_iff_iff, List.any_eq_true, decide_eq_true_eq]
  have hm : ∀ z, z ∈ lAhead l x k ↔ z ∈ aheadOf x (l.held ++ l.queue.take k) := fun z => once_mem _ z
  constructor
  · intro h
    obtain ⟨z, hz⟩ : ∃ z, z ∈ lAhead l x k := by
      cases hl : lAhead l x k with
      | nil => rw [hl] at h; simp at h
      | cons a l2 => exact ⟨a, List.mem_cons_self ..⟩
    rw [hm] at hz
    unfold aheadOf at hz
    obtain ⟨w, hw, rfl⟩ := List.mem_map.1 hz
    exact ⟨w, (List.mem_filter.1 hw).1, (List.mem_filter.1 hw).2⟩
  · rintro ⟨w, hw, hc⟩
    have : w.owner ∈ lAhead l x k := (hm _).2 (List.mem_map.2 ⟨w, List.mem_filter.2 ⟨hw, hc⟩, rfl⟩)
    have := List.length_pos_of_mem this
    omega
theorem single_iff : ∀ (xs pre : List Lock), singleFrom pre xs = true ↔ (∀ x ∈ xs, ∀ y ∈ pre, lTwice x y = false) ∧ xs.Pairwise fun a b => lTwice b a = false
  | [], pre => by simp [singleFrom]
  | x :: xs, pre => by
    rw [singleFrom, List.pairwise_cons]
    cases h : pre.any (lTwice x) with
    | true =>
      simp only [cond_true, Bool.false_eq_true, false_iff]
      rintro ⟨h1, _⟩
      obtain ⟨y, hy, hxy⟩ := List.any_eq_true.1 h
      rw [h1 x (List.mem_cons_self ..) y hy] at hxy; cases hxy
    | false =>
      rw [cond_false, single_iff xs (pre ++ [x])]
      have h0 : ∀ y ∈ pre, lTwice x y = false := fun y hy => by
        cases hxy : lTwice x y with
        | false => rfl
        | true => rw [List.any_eq_true.2 ⟨y, hy, hxy⟩] at h; cases h
      constructor
      · rintro ⟨h1, h2⟩
        refine ⟨fun z hz y hy => ?_, fun z hz => h1 z hz x (by simp), h2⟩
        rcases List.mem_cons.1 hz with rfl | hz
        · exact h0 y hy
        · exact h1 z hz y (by simp [hy])
      · rintro ⟨h1, h2, h3⟩
        refine ⟨fun z hz y hy => ?_, h3⟩
        rcases List.mem_append.1 hy with hy | hy
        · exact h1 z (List.mem_cons_of_mem _ hz) y hy
        · rw [List.mem_singleton.1 hy]; exact h2 z hz
theorem lQ_iff (l : Locks) : ∀ (xs : List Lock) (k : Nat), lQ l xs k = true ↔ ∀ (i : Nat) y, xs[i]? = some y → lQok l y (k + i) = true
  | [], k => by simp [lQ]
  | x :: xs, k => by
    rw [lQ]
    cases h : lQok l x k with
    | false =>
      simp only [cond_false, Bool.false_eq_true, false_iff]
      intro hn
      have := hn 0 x rfl
      rw [Nat.add_zero, h] at this; cases this
    | true =>
      rw [cond_true, lQ_iff l xs (k + 1)]
      constructor
      · intro h1 i y hy
        cases i with
        | zero => simp at hy; subst hy; exact h
        | succ i => have := h1 i y (by simpa using hy); rwa [show k + 1 + i = k + (i + 1) by omega] at this
      · intro h1 i y hy
        have := h1 (i + 1) y (by simpa using hy)
        rwa [show k + (i + 1) = k + 1 + i by omega] at this
theorem qok_iff {l : Locks} {y : Lock} {k : Nat} (h : l.queue[k]? = some y) : lQok l y k = true ↔ (∀ z ∈ l.queue.take k, z.owner ≠ y.owner) ∧ ∃ z ∈ l.held ++ l.queue.take k, lClash z y = true := by
  have hk := (List.getElem?_eq_some_iff.1 h).1
  have hy := (List.getElem?_eq_some_iff.1 h).2
  have hsplit : l.queue = l.queue.take k ++ y :: l.queue.drop (k + 1) := by
    rw [← hy, ← List.drop_eq_getElem_cons hk, List.take_append_drop]
  have hp := place_new (l.queue.take k) y (l.queue.drop (k + 1))
  rw [← hsplit, List.length_take, Nat.min_eq_left (by omega)] at hp
  unfold lQok
  rw [hp, ahead_pos, Bool.and_eq_true, List.any_eq_true]
  constructor
  · rintro ⟨h1, h2⟩
    refine ⟨fun z hz he => ?_, h2⟩
    have : ((l.queue.take k).any fun z => z.owner == y.owner) = true := List.any_eq_true.2 ⟨z, hz, by simpa using he⟩
    rw [this] at h1; cases h1
  · rintro ⟨h1, h2⟩
    refine ⟨?_, h2⟩
    cases ha : (l.queue.take k).any (fun z => z.owner == y.owner) with
    | false => rfl
    | true =>
      obtain ⟨z, hz, he⟩ := List.any_eq_true.1 ha
      exact absurd (by simpa using he) (h1 z hz)
theorem own_iff (l : List Lock) : (l.Pairwise fun a b => a.owner ≠ b.owner) ↔ ∀ (k : Nat) y, l[k]? = some y → ∀ z ∈ l.take k, z.owner ≠ y.owner := by
  rw [List.pairwise_iff_getElem]
  constructor
  · intro h k y hy z hz
    obtain ⟨i, hi, rfl⟩ := List.mem_iff_getElem.1 hz
    rw [List.length_take] at hi
    obtain ⟨hk, rfl⟩ := List.getElem?_eq_some_iff.1 hy
    rw [List.getElem_take]
    exact h i k (by omega) hk (by omega)
  · intro h i j hi hj hij
    refine h j l[j] (List.getElem?_eq_getElem hj) _ (List.mem_iff_getElem.2 ⟨i, by rw [List.length_take]; omega, ?_⟩)
    rw [List.getElem_take]
theorem check_iff (l : Locks) : lCheck l = true ↔ Ok l := by
  unfold lCheck
  simp only [Bool.and_eq_true, Bool.not_eq_true', Bool.or_eq_false_iff, decide_eq_false_iff_not]
  have any1 : ∀ l : List Lock, (l.any fun x => !lMay x) = false ↔ ∀ y ∈ l, lMay y = true := fun l => by
    rw [List.any_eq_false]; simp
  have any2 : (l.queue.any fun x => l.held.any (lWeak x)) = false ↔ ∀ y ∈ l.queue, ∀ h ∈ l.held, lWeak y h = false := by
    rw [List.any_eq_false]; simp
  rw [any1, any1, any2, single_iff, lQ_iff]
  constructor
  · rintro ⟨⟨h1, h2, h3⟩, h4, ⟨_, h5⟩, h6⟩
    have h4 := fun k y (hy : l.queue[k]? = some y) => (qok_iff hy).1 (by have := h4 k y hy; rwa [Nat.zero_add] at this)
    exact ⟨by omega, h2, h3, (own_iff _).2 fun k y hy => (h4 k y hy).1, fun k y hy => (h4 k y hy).2, h5, h6⟩
  · rintro ⟨h1, h2, h3, h4, h5, h6, h7⟩
    refine ⟨⟨by omega, h2, h3⟩, fun i y hy => ?_, ⟨fun _ _ y hy => (by cases hy), h6⟩, h7⟩
    rw [Nat.zero_add]
    exact (qok_iff hy).2 ⟨(own_iff _).1 h4 i y hy, h5 i y hy⟩
/-! ### one more -/
theorem idxOf_neg {α : Type} (p : α → Bool) : ∀ (l : List α) (k : Int), 0 ≤ k → ¬ idxOf p l k ≥ 0 → ∀ y ∈ l, p y = false
  | [], k, hk, h => fun y hy => by cases hy
  | x :: l, k, hk, h => fun y hy => by
    cases hx : p x with
    | true => rw [idxOf, hx] at h; exact absurd hk h
    | false =>
      rw [idxOf, hx] at h
      rcases List.mem_cons.1 hy with rfl | hy
      · exact hx
      · exact idxOf_neg p l (k + 1) (by omega) h y hy
theorem may_mode {x : Lock} (h : lMay x = true) (hw : x.whole = true) : mIs x.mode = true := by
  unfold lMay at h
  split at h
  · cases h
  · simp only [Bool.and_eq_true] at h; exact (covers_is h.2).1
theorem may_with {x : Lock} (h : lMay x = true) (hw : x.whole = true) {m : Int} (hm : mIs m = true) : lMay { x with mode := m } = true := by
  unfold lMay at h ⊢
  dsimp only at h ⊢
  split at h
  · cases h
  · next hn =>
    rw [if_neg hn]
    rw [hw]
    simp only [if_true, Bool.and_eq_true] at h ⊢
    exact ⟨h.1, by rw [covers_self]; exact hm⟩
theorem may_owner {x : Lock} (h : lMay x = true) : 0 ≤ x.owner ∧ x.owner < 4 := by
  unfold lMay at h
  split at h
  · cases h
  · next hn => simp at hn; omega
theorem may_small {x : Lock} (h : lMay x = true) : x.span.lo.length ≤ 17 ∧ x.span.hi.length ≤ 17 := by
  unfold lMay at h
  split at h
  · cases h
  · next hn =>
    simp at hn
    have := hn.2.2
    unfold sCheck at this
    simp at this
    omega
theorem twice_whole {x y : Lock} (h : lWholeP x y = true) : lTwice x y = true := by
  unfold lWholeP at h; unfold lTwice
  simp at h ⊢
  exact .inr ⟨⟨⟨h.1.1.1, h.1.1.2⟩, h.1.2.symm⟩, h.2.symm⟩
theorem twice_of {x y : Lock} (h1 : lClash x y = false) (h2 : lWholeP x y = false) : lTwice x y = false := by
  unfold lWholeP at h2; unfold lTwice
  rw [h1]
  rw [show (x.owner == y.owner) = (y.owner == x.owner) from Bool.beq_comm, show (x.span.t == y.span.t) = (y.span.t == x.span.t) from Bool.beq_comm, h2]; rfl
theorem whole_flip {x y : Lock} (h : lWholeP x y = true) : lWholeP y x = true := by
  unfold lWholeP at h ⊢; simp at h ⊢
  exact ⟨⟨⟨h.1.1.2, h.1.1.1⟩, h.1.2.symm⟩, h.2.symm⟩
theorem whole_trans {x y z : Lock} (h : lWholeP x y = true) (k : lWholeP y z = true) : lWholeP x z = true := by
  unfold lWholeP at h k ⊢; simp at h k ⊢
  exact ⟨⟨⟨h.1.1.1, k.1.1.2⟩, k.1.2.trans h.1.2⟩, k.2.trans h.2⟩
/-- Held once, beside others. -/
structure HoldOk (L : List Lock) (x : Lock) (R : List Lock) : Prop where
  mem : ∀ z ∈ R, z = x ∨ z ∈ L
  has : x ∈ R
  cov : ∀ z ∈ L, ∃ z' ∈ R, covL z' z
  single : R.Pairwise fun a b => lTwice b a = false
  len : R.length ≤ L.length + 1
theorem hold_ok {L : List Lock} {x : Lock} (hs : L.Pairwise fun a b => lTwice b a = false) (hc : ∀ z ∈ L, lClash z x = false) (hm : ∀ z ∈ L, lWholeP x z = true → mCovers x.mode z.mode = true) : HoldOk L x (holdL L x) := by
  have hc' : ∀ z ∈ L, lClash x z = false := fun z hz => by rw [clash_flip]; exact hc z hz
  unfold holdL
  split
  · next h =>
    obtain ⟨h0, y, hy, hp⟩ := idxOf_lt (lWholeP x) L 0 (Int.le_refl _) h
    rw [show idxOf (lWholeP x) L 0 = lWhole L x from rfl, Int.sub_zero] at hy
    generalize (lWhole L x).toNat = i at hy ⊢
    have hi := (List.getElem?_eq_some_iff.1 hy).1
    have hyi := (List.getElem?_eq_some_iff.1 hy).2
    have other : ∀ (j : Nat) (hj : j < L.length), j ≠ i → lWholeP x L[j] = false := fun j hj hne => by
      cases hpj : lWholeP x L[j] with
      | false => rfl
      | true =>
        have h1 : lWholeP L[j] L[i] = true := whole_trans (whole_flip hpj) (by rw [hyi]; exact hp)
        have h2 : lWholeP L[i] L[j] = true := whole_flip h1
        rw [List.pairwise_iff_getElem] at hs
        rcases Nat.lt_or_gt_of_ne hne with hlt | hlt
        · have := hs j i hj hi hlt
          rw [twice_whole h2] at this; cases this
        · have := hs i j hi hj hlt
          rw [twice_whole h1] at this; cases this
    refine ⟨fun z hz => ?_, ?_, fun z hz => ?_, ?_, by simp⟩
    · rcases List.mem_or_eq_of_mem_set hz with h | h
      · exact .inr h
      · exact .inl h
    · exact List.mem_iff_getElem.2 ⟨i, by simpa using hi, by simp⟩
    · obtain ⟨j, hj, rfl⟩ := List.mem_iff_getElem.1 hz
      by_cases hji : j = i
      · subst hji
        refine ⟨x, List.mem_iff_getElem.2 ⟨j, by simpa using hj, by simp⟩, .inr ?_⟩
        have hp' : lWholeP x L[j] = true := by rw [hyi]; exact hp
        have hm' := hm _ (List.getElem_mem hj) hp'
        unfold lWholeP at hp'
        simp at hp'
        exact ⟨hp'.1.1.1, hp'.1.1.2, hp'.1.2.symm, hp'.2.symm, hm'⟩
      · exact ⟨L[j], List.mem_iff_getElem.2 ⟨j, by simpa using hj, by rw [List.getElem_set]; rw [if_neg (Ne.symm hji)]⟩, .inl rfl⟩
    · rw [List.pairwise_iff_getElem] at hs ⊢
      intro a b ha hb hab
      rw [List.length_set] at ha hb
      rw [List.getElem_set, List.getElem_set]
      by_cases hai : i = a
      · rw [if_pos hai, if_neg (by omega)]
        exact twice_of (hc _ (List.getElem_mem hb)) (by
          cases hw : lWholeP L[b] x with
          | false => rfl
          | true => have := other b hb (by omega); rw [whole_flip hw] at this; cases this)
      · rw [if_neg hai]
        by_cases hbi : i = b
        · rw [if_pos hbi]
          exact twice_of (hc' _ (List.getElem_mem ha)) (other a ha (by omega))
        · rw [if_neg hbi]; exact hs a b ha hb hab
  · next h =>
    have hn := idxOf_neg (lWholeP x) L 0 (Int.le_refl _) h
    refine ⟨fun z hz => ?_, by simp, fun z hz => ⟨z, by simp [hz], .inl rfl⟩, ?_, by simp⟩
    · rcases List.mem_append.1 hz with h | h
      · exact .inr h
      · exact .inl (by simpa using h)
    · rw [List.pairwise_append]
      refine ⟨hs, List.pairwise_singleton _ _, fun a ha b hb => ?_⟩
      rw [List.mem_singleton.1 hb]
      exact twice_of (hc' a ha) (hn a ha)
def push (s : Locks) (x : Lock) : Locks := if decide (((lAhead s x s.queue.length).length : Int) > 0) then ⟨s.held, s.queue ++ [x]⟩ else ⟨holdL s.held x, s.queue⟩
theorem ahead_all (s : Locks) (x : Lock) : decide (((lAhead s x s.queue.length).length : Int) > 0) = (s.held ++ s.queue).any fun z => lClash z x := by
  rw [ahead_pos, List.take_length]
theorem weak_cov {x h : Lock} (hw : lWeak x h = false) (hp : lWholeP x h = true) : mCovers x.mode h.mode = true := by
  unfold lWeak at hw; unfold lWholeP at hp
  simp at hw hp
  exact hw hp.1.1.1 hp.1.1.2 hp.1.2.symm hp.2.symm
theorem push_ok {s : Locks} {x : Lock} (h : Ok s) (hm : lMay x = true) (ho : ∀ y ∈ s.queue, y.owner ≠ x.owner) (hw : ∀ y ∈ s.held, lWeak x y = false) (hz : s.held.length + s.queue.length < 40) :
    Ok (push s x) ∧ (∀ y ∈ (push s x).held, y = x ∨ y ∈ s.held) ∧ (∀ y ∈ (push s x).queue, y = x ∨ y ∈ s.queue) ∧ (push s x).held.length + (push s x).queue.length ≤ s.held.length + s.queue.length + 1 := by
  unfold push
  rw [ahead_all]
  cases ha : (s.held ++ s.queue).any (fun z => lClash z x) with
  | true =>
    rw [if_pos rfl]
    refine ⟨⟨by simp; omega, h.may1, ?_, ?_, ?_, h.single, ?_⟩, fun y hy => .inr hy, ?_, by simp; omega⟩
    · intro y hy
      rcases List.mem_append.1 hy with hy | hy
      · exact h.may2 y hy
      · rw [List.mem_singleton.1 hy]; exact hm
    · show (s.queue ++ [x]).Pairwise _
      rw [List.pairwise_append]
      exact ⟨h.own, List.pairwise_singleton _ _, fun a ha b hb => by rw [List.mem_singleton.1 hb]; exact ho a ha⟩
    · intro k y hy
      show ∃ z ∈ s.held ++ (s.queue ++ [x]).take k, lClash z y = true
      change (s.queue ++ [x])[k]? = some y at hy
      rcases Nat.lt_or_ge k s.queue.length with hk | hk
      · rw [List.getElem?_append_left hk] at hy
        rw [List.take_append_of_le_length (Nat.le_of_lt hk)]
        exact h.wait k y hy
      · rw [List.getElem?_append_right hk] at hy
        have : k = s.queue.length := by
          rcases Nat.lt_or_ge s.queue.length k with h1 | h1
          · rw [List.getElem?_eq_none (by simp; omega)] at hy; cases hy
          · omega
        subst this
        simp at hy
        subst hy
        rw [List.take_append_of_le_length (Nat.le_refl _), List.take_length]
        obtain ⟨z, hz, hc⟩ := List.any_eq_true.1 ha
        exact ⟨z, hz, hc⟩
    · intro y hy
      rcases List.mem_append.1 hy with hy | hy
      · exact h.weak y hy
      · rw [List.mem_singleton.1 hy]; exact hw
    · intro y hy
      rcases List.mem_append.1 hy with hy | hy
      · exact .inr hy
      · exact .inl (List.mem_singleton.1 hy)
  | false =>
    rw [if_neg (by simp)]
    have hno : ∀ z ∈ s.held ++ s.queue, lClash z x = false := fun z hz => by
      cases hc : lClash z x with
      | false => rfl
      | true => rw [List.any_eq_true.2 ⟨z, hz, hc⟩] at ha; cases ha
    have hh := hold_ok h.single (fun z hz => hno z (by simp [hz])) (fun z hz hp => weak_cov (hw z hz) hp)
    refine ⟨⟨by have := hh.len; show (holdL s.held x).length + s.queue.length ≤ 40; omega, ?_, h.may2, h.own, ?_, hh.single, ?_⟩, hh.mem, fun y hy => .inr hy, by have := hh.len; show (holdL s.held x).length + s.queue.length ≤ _; omega⟩
    · intro y hy
      rcases hh.mem y hy with rfl | hy
      · exact hm
      · exact h.may1 y hy
    · intro k y hy
      obtain ⟨z, hz, hc⟩ := h.wait k y hy
      rcases List.mem_append.1 hz with hz | hz
      · obtain ⟨z', hz', hcov⟩ := hh.cov z hz
        exact ⟨z', List.mem_append.2 (.inl hz'), clash_cov' hcov hc⟩
      · exact ⟨z, List.mem_append.2 (.inr hz), hc⟩
    · intro y hy z hz
      rcases hh.mem z hz with rfl | hz
      · have := ho y hy
        unfold lWeak
        rw [show (y.owner == z.owner) = false by simpa using this]
        simp
      · exact h.weak y hy z hz
/-! ### Ask -/
theorem joined_ok {l : Locks} {x : Lock} (h : Ok l) (hm : lMay x = true) :
    covL (lJoined l x) x ∧ lMay (lJoined l x) = true ∧ (lJoined l x).owner = x.owner ∧ (lJoined l x).whole = x.whole ∧ (lJoined l x).span = x.span ∧ (x.whole = false → lJoined l x = x) ∧ ∀ y ∈ l.held, lWeak (lJoined l x) y = false := by
  unfold lJoined
  split
  · next hw =>
    obtain ⟨_, y, hy, hp⟩ := idxOf_lt (lWholeP x) l.held 0 (Int.le_refl _) hw
    rw [show idxOf (lWholeP x) l.held 0 = lWhole l.held x from rfl, Int.sub_zero] at hy
    unfold atMode
    rw [hy]
    dsimp only
    have hyl := List.mem_of_getElem? hy
    have hp' := hp
    unfold lWholeP at hp'
    simp at hp'
    have hxw : x.whole = true := hp'.1.1.1
    have hj := join_is (may_mode hm hxw) (may_mode (h.may1 y hyl) hp'.1.1.2)
    refine ⟨.inr ⟨hxw, hxw, rfl, rfl, hj.2.1⟩, may_with hm hxw hj.1, rfl, rfl, rfl, fun hf => (by rw [hxw] at hf; cases hf), fun z hz => ?_⟩
    cases hzp : lWholeP x z with
    | false =>
      unfold lWeak
      unfold lWholeP at hzp
      dsimp only
      rw [show (x.owner == z.owner) = (z.owner == x.owner) from Bool.beq_comm, show (x.span.t == z.span.t) = (z.span.t == x.span.t) from Bool.beq_comm, hzp]; rfl
    | true =>
      have : z = y := by
        have hzy := whole_trans (whole_flip hzp) hp
        obtain ⟨i, hi, hz'⟩ := List.mem_iff_getElem.1 hz
        obtain ⟨j, hj', hy'⟩ := List.mem_iff_getElem.1 hyl
        have hs := h.single
        rw [List.pairwise_iff_getElem] at hs
        rcases Nat.lt_trichotomy i j with hlt | rfl | hlt
        · have := hs i j hi hj' hlt
          rw [hz', hy', twice_whole (whole_flip hzy)] at this; cases this
        · rw [← hz', ← hy']
        · have := hs j i hj' hi hlt
          rw [hz', hy', twice_whole hzy] at this; cases this
      subst this
      unfold lWeak
      dsimp only
      rw [hj.2.2]; simp
  · next hw =>
    have hn := idxOf_neg (lWholeP x) l.held 0 (Int.le_refl _) hw
    refine ⟨.inl rfl, hm, rfl, rfl, rfl, fun _ => rfl, fun z hz => ?_⟩
    have hzp := hn z hz
    unfold lWeak
    unfold lWholeP at hzp
    rw [show (x.owner == z.owner) = (z.owner == x.owner) from Bool.beq_comm, show (x.span.t == z.span.t) = (z.span.t == x.span.t) from Bool.beq_comm, hzp]; rfl
theorem place_no {l : List Lock} {o : Int} (h : ¬ place l o ≥ 0) : ∀ y ∈ l, y.owner ≠ o := fun y hy he => by
  have := idxOf_neg (fun x : Lock => x.owner == o) l 0 (Int.le_refl _) h y hy
  simp [he] at this
theorem no_place {l : List Lock} {o : Int} (h : ∀ y ∈ l, y.owner ≠ o) : ¬ place l o ≥ 0 := fun hp => by
  obtain ⟨y, hy, ho⟩ := place_at hp
  exact h y (List.mem_of_getElem? hy) ho
theorem waits_iff (l : Locks) (o : Int) : lWaits l o = true ↔ Ok l ∧ ∃ y ∈ l.queue, y.owner = o := by
  unfold lWaits
  rw [Bool.and_eq_true, check_iff, decide_eq_true_eq]
  constructor
  · rintro ⟨h1, h2⟩
    obtain ⟨y, hy, ho⟩ := place_at h2
    exact ⟨h1, y, List.mem_of_getElem? hy, ho⟩
  · rintro ⟨h1, y, hy, ho⟩
    refine ⟨h1, Classical.byContradiction fun hn => place_no hn y hy ho⟩
theorem ask_push (l : Locks) (x : Lock) : lAsk l x = if !lCheck l || (!lMay x || lWaits l x.owner) then (l, 1) else if l.held.any (fun h => lServes h x) then (l, 0) else if decide ((l.held.length : Int) + l.queue.length ≥ 40) then (l, 111)
    else (push l (lJoined l x), if decide (((lAhead l (lJoined l x) l.queue.length).length : Int) > 0) then 110 else 0) := by
  unfold lAsk push
  repeat' split
  all_goals rfl
theorem covers_span (s : Span) : sCovers s s = true := by
  unfold sCovers
  split
  · rfl
  · simp [cmpB_eq, cm_self]
theorem serves_joined {l : Locks} {x : Lock} (h : Ok l) (hm : lMay x = true) : lServes (lJoined l x) x = true := by
  obtain ⟨h1, _, h2, h3, h4, h5, _⟩ := joined_ok h hm
  unfold lServes
  rw [h2, h3, h4]
  cases hw : x.whole with
  | true =>
    simp
    rcases h1 with h1 | h1
    · rw [h1, covers_self]; exact may_mode hm hw
    · exact h1.2.2.2.2
  | false =>
    rw [h5 hw]; simp [covers_span]
/-- What an Ask comes to. -/
theorem ask_ok {l : Locks} (h : Ok l) (x : Lock) : Ok (lAsk l x).1 ∧ (((lAsk l x).2 = 0 ∧ lAsk (lAsk l x).1 x = ((lAsk l x).1, 0)) ∨ ((lAsk l x).2 = 110 ∧ (lAsk (lAsk l x).1 x).2 = 1 ∧ lWaits (lAsk l x).1 x.owner = true) ∨ ((lAsk l x).2 ≠ 0 ∧ (lAsk l x).2 ≠ 110 ∧ (lAsk l x).1 = l)) := by
  have hc := (check_iff l).2 h
  rw [ask_push l x]
  split
  · exact ⟨h, .inr (.inr ⟨fun h => (by cases h), fun h => (by cases h), rfl⟩)⟩
  · next n1 =>
    simp [hc] at n1
    obtain ⟨hm, hw⟩ := n1
    split
    · next hs =>
      refine ⟨h, .inl ⟨rfl, ?_⟩⟩
      show lAsk l x = (l, 0)
      rw [ask_push, hc, hm, hw, if_neg (by simp), if_pos hs]
    · next n2 =>
      split
      · exact ⟨h, .inr (.inr ⟨fun h => (by cases h), fun h => (by cases h), rfl⟩)⟩
      · next n3 =>
        obtain ⟨j1, j2, j3, j4, j5, j6, j7⟩ := joined_ok h hm
        have hnq : ∀ y ∈ l.queue, y.owner ≠ x.owner := fun y hy he => by
          have := (waits_iff l x.owner).2 ⟨h, y, hy, he⟩
          rw [hw] at this; cases this
        obtain ⟨hp, _⟩ := push_ok h j2 (fun y hy => by rw [j3]; exact hnq y hy) j7 (by simp at n3; omega)
        refine ⟨hp, ?_⟩
        dsimp only
        unfold push at hp ⊢
        cases ha : decide (((lAhead l (lJoined l x) l.queue.length).length : Int) > 0) with
        | true =>
          rw [ha] at hp
          have hwt : lWaits ⟨l.held, l.queue ++ [lJoined l x]⟩ x.owner = true := (waits_iff _ _).2 ⟨hp, lJoined l x, by simp, j3⟩
          refine .inr (.inl ⟨rfl, ?_, hwt⟩)
          show (lAsk ⟨l.held, l.queue ++ [lJoined l x]⟩ x).2 = 1
          unfold lAsk
          rw [hwt, if_pos (by simp)]
        | false =>
          rw [ha] at hp
          refine .inl ⟨rfl, ?_⟩
          show lAsk ⟨holdL l.held (lJoined l x), l.queue⟩ x = (_, 0)
          have hp : Ok ⟨holdL l.held (lJoined l x), l.queue⟩ := hp
          have hnw : lWaits ⟨holdL l.held (lJoined l x), l.queue⟩ x.owner = false := by
            cases hq : lWaits ⟨holdL l.held (lJoined l x), l.queue⟩ x.owner with
            | false => rfl
            | true =>
              obtain ⟨_, y, hy, he⟩ := (waits_iff _ _).1 hq
              exact absurd he (hnq y hy)
          rw [ask_push, (check_iff _).2 hp, hm, hnw, if_neg (by simp)]
          have hno : ∀ z ∈ l.held, lClash z (lJoined l x) = false := fun z hz => by
            rw [ahead_all] at ha
            cases hcz : lClash z (lJoined l x) with
            | false => rfl
            | true => rw [List.any_eq_true.2 ⟨z, List.mem_append.2 (.inl hz), hcz⟩] at ha; cases ha
          have hh := hold_ok h.single hno (fun z hz hp => weak_cov (j7 z hz) hp)
          have hsv : lServes (lJoined l x) x = true := serves_joined h hm
          rw [if_pos (List.any_eq_true.2 ⟨lJoined l x, hh.has, hsv⟩)]
          rfl
/-- LockAlone's. -/
theorem ask_alone {l : Locks} (h : Ok l) (x : Lock) (hx : (l.held ++ l.queue).any (fun y => lClash y x) = true) : (lAsk l x).2 ≠ 0 ∨ (lAsk l x).1 = l := by
  rw [ask_push l x]
  split
  · exact .inr rfl
  · next n1 =>
    have hc := (check_iff l).2 h
    simp [hc] at n1
    split
    · exact .inr rfl
    · split
      · exact .inr rfl
      · obtain ⟨j1, _⟩ := joined_ok h n1.1
        obtain ⟨z, hz, hcz⟩ := List.any_eq_true.1 hx
        have hcc : lClash z (lJoined l x) = true := clash_cov j1 hcz
        rw [ahead_all, List.any_eq_true.2 ⟨z, hz, hcc⟩]
        exact .inl (fun h => by cases h)
/-! ### Drop -/
theorem drop_push : dropStep = fun s x => (push s.1 x, if decide (((lAhead s.1 x s.1.queue.length).length : Int) > 0) then s.2 else s.2 ++ [x.owner]) := by
  funext s x
  unfold dropStep push
  split <;> rfl
structure Pre (s : Locks) (rest : List Lock) (o : Int) : Prop where
  ok : Ok s
  size : s.held.length + s.queue.length + rest.length ≤ 40
  may : ∀ y ∈ rest, lMay y = true
  own : (s.queue ++ rest).Pairwise fun a b => a.owner ≠ b.owner
  weak : ∀ y ∈ rest, ∀ h ∈ s.held, lWeak y h = false
  gone : ∀ y ∈ s.held ++ s.queue ++ rest, y.owner ≠ o
theorem pre_fold (o : Int) (M : Lock → Prop) : ∀ (rest : List Lock) (s : Locks) (g : List Int), Pre s rest o → (∀ y ∈ s.held ++ s.queue ++ rest, M y) → Pre (rest.foldl dropStep (s, g)).1 [] o ∧ ∀ y ∈ (rest.foldl dropStep (s, g)).1.held ++ (rest.foldl dropStep (s, g)).1.queue, M y
  | [], s, g, h, hM => ⟨h, fun y hy => hM y (by simpa using hy)⟩
  | x :: rest, s, g, h, hM => by
    rw [List.foldl_cons]
    have hstep : dropStep (s, g) x = (push s x, (dropStep (s, g) x).2) := by rw [drop_push]
    rw [hstep]
    have ho := h.own
    rw [List.pairwise_append] at ho
    obtain ⟨o1, o2, o3⟩ := ho
    rw [List.pairwise_cons] at o2
    have hsz := h.size
    rw [List.length_cons] at hsz
    obtain ⟨k1, k2, k3, k4⟩ := push_ok h.ok (h.may x (List.mem_cons_self ..)) (fun y hy => o3 y hy x (List.mem_cons_self ..)) (h.weak x (List.mem_cons_self ..)) (by omega)
    have hall : ∀ y ∈ (push s x).held ++ (push s x).queue ++ rest, y ∈ s.held ++ s.queue ++ x :: rest := fun y hy => by
      simp only [List.mem_append, List.mem_cons] at hy ⊢
      rcases hy with (hy | hy) | hy
      · rcases k2 y hy with rfl | hy
        · exact .inr (.inl rfl)
        · exact .inl (.inl hy)
      · rcases k3 y hy with rfl | hy
        · exact .inr (.inl rfl)
        · exact .inl (.inr hy)
      · exact .inr (.inr hy)
    refine pre_fold o M rest (push s x) _ ⟨k1, by omega, fun y hy => h.may y (List.mem_cons_of_mem _ hy), ?_, fun y hy z hz => ?_, fun y hy => h.gone y (hall y hy)⟩ (fun y hy => hM y (hall y hy))
    · rw [List.pairwise_append]
      refine ⟨k1.own, o2.2, fun a ha b hb => ?_⟩
      rcases k3 a ha with rfl | ha
      · exact o2.1 b hb
      · exact o3 a ha b (List.mem_cons_of_mem _ hb)
    · rcases k2 z hz with rfl | hz
      · have := o2.1 y hy
        unfold lWeak
        rw [show (y.owner == z.owner) = false by simpa using this.symm]
        simp
      · exact h.weak y (List.mem_cons_of_mem _ hy) z hz
theorem rid_mem {o : Int} {l : List Lock} {y : Lock} (h : y ∈ rid o l) : y ∈ l ∧ y.owner ≠ o := by
  unfold rid at h
  obtain ⟨h1, h2⟩ := List.mem_filter.1 h
  exact ⟨h1, by simpa using h2⟩
/-- What a Drop comes to. -/
theorem drop_ok {l : Locks} (h : Ok l) (o : Int) : Ok (lDrop l o).1 ∧ (∀ y ∈ (lDrop l o).1.held ++ (lDrop l o).1.queue, y ∈ l.held ++ l.queue ∧ (0 ≤ o ∧ o < 4 → y.owner ≠ o)) := by
  unfold lDrop
  rw [(check_iff l).2 h]
  split
  · next hn =>
    refine ⟨h, fun y hy => ⟨hy, fun ho => ?_⟩⟩
    simp at hn; omega
  · have l1 : (rid o l.held).length ≤ l.held.length := List.length_filter_le _ _
    have l2 : (rid o l.queue).length ≤ l.queue.length := List.length_filter_le _ _
    have hsz := h.size
    have hok : Ok ⟨rid o l.held, []⟩ := ⟨by show (rid o l.held).length + 0 ≤ 40; omega, fun y hy => h.may1 y (rid_mem hy).1, fun y hy => (by cases hy), List.Pairwise.nil, fun k y hy => (by simp at hy), h.single.filter _, fun y hy => (by cases hy)⟩
    obtain ⟨h1, h2⟩ := pre_fold o (fun y => y ∈ l.held ++ l.queue) (rid o l.queue) ⟨rid o l.held, []⟩ [] ⟨hok, by show (rid o l.held).length + 0 + (rid o l.queue).length ≤ 40; omega, fun y hy => h.may2 y (rid_mem hy).1, by
        rw [List.nil_append]; exact h.own.filter _, fun y hy z hz => h.weak y (rid_mem hy).1 z (rid_mem hz).1, fun y hy => by
        simp only [List.append_nil, List.mem_append] at hy
        rcases hy with hy | hy <;> exact (rid_mem hy).2⟩ (fun y hy => by
        simp only [List.append_nil, List.mem_append] at hy ⊢
        rcases hy with hy | hy
        · exact .inl (rid_mem hy).1
        · exact .inr (rid_mem hy).1)
    exact ⟨h1.ok, fun y hy => ⟨h2 y hy, fun _ => h1.gone y (by rw [List.append_nil]; exact hy)⟩⟩
/-! ### small -/
theorem ok_small {l : Locks} (h : Ok l) : smallLs l :=
  ⟨by have := h.size; omega, by have := h.size; omega, fun x hx => by have := may_small (h.may1 x hx); exact ⟨by omega, by omega⟩, fun x hx => by have := may_small (h.may2 x hx); exact ⟨by omega, by omega⟩⟩
theorem small_check {l : Locks} (h : lCheck l = true) : smallLs l := ok_small ((check_iff l).1 h)
theorem small_short {x : Lock} (h : short x = true) : smallX x := by
  unfold short at h
  simp at h
  exact ⟨by omega, by omega⟩
theorem ok_empty : Ok ⟨[], []⟩ := ⟨by simp, fun y hy => (by cases hy), fun y hy => (by cases hy), .nil, fun k y hy => (by simp at hy), .nil, fun y hy => (by cases hy)⟩
/-- Who all have gone. -/
theorem all_gone {l : Locks} (h : Ok l) : (lDrop (lDrop (lDrop (lDrop l 0).1 1).1 2).1 3).1 = ⟨[], []⟩ := by
  obtain ⟨a1, a2⟩ := drop_ok h 0
  obtain ⟨b1, b2⟩ := drop_ok a1 1
  obtain ⟨c1, c2⟩ := drop_ok b1 2
  obtain ⟨d1, d2⟩ := drop_ok c1 3
  generalize hr : (lDrop (lDrop (lDrop (lDrop l 0).1 1).1 2).1 3).1 = r at d1 d2 ⊢
  have none : ∀ y ∈ r.held ++ r.queue, False := fun y hy => by
    obtain ⟨m3, n3⟩ := d2 y hy
    obtain ⟨m2, n2⟩ := c2 y m3
    obtain ⟨m1, n1⟩ := b2 y m2
    obtain ⟨m0, n0⟩ := a2 y m1
    have hm : lMay y = true := by
      rcases List.mem_append.1 m0 with hm | hm
      · exact h.may1 y hm
      · exact h.may2 y hm
    have := may_owner hm
    have := n0 (by omega); have := n1 (by omega); have := n2 (by omega); have := n3 (by omega)
    omega
  obtain ⟨rh, rq⟩ := r
  have e1 : rh = [] := List.eq_nil_iff_forall_not_mem.2 fun y hy => none y (List.mem_append.2 (.inl hy))
  have e2 : rq = [] := List.eq_nil_iff_forall_not_mem.2 fun y hy => none y (List.mem_append.2 (.inr hy))
  rw [e1, e2]
end Go.Proofs.Ve

/- Plain laws of waiting: whom a Drop leaves waiting. -/
set_option maxRecDepth 100000
set_option linter.all false
namespace Go.Proofs.Ve
open Go
/-- Somebody (o) stands in a queue behind b, whom it clashes with. -/
def PE (h q : List Lock) (o b : Int) : Prop := ∃ pre y post, q = pre ++ y :: post ∧ y.owner = o ∧ ∃ z ∈ h ++ pre, lClash z y = true ∧ z.owner = b
theorem edges_to (l : Locks) (a b : Int) : ∀ n, (a, b) ∈ edgesTo l n ↔ ∃ o : Nat, o < n ∧ a = o ∧ b ∈ lBlockers l o
  | 0 => by simp [edgesTo]
  | n + 1 => by
    rw [edgesTo, List.mem_append, edges_to l a b n]
    unfold edgesO
    rw [List.mem_map]
    constructor
    · rintro (⟨o, h1, h2, h3⟩ | ⟨x, hx, he⟩)
      · exact ⟨o, by omega, h2, h3⟩
      · simp only [Prod.mk.injEq] at he
        obtain ⟨rfl, rfl⟩ := he
        exact ⟨n, by omega, rfl, hx⟩
    · rintro ⟨o, h1, h2, h3⟩
      rcases Nat.lt_or_ge o n with h | h
      · exact .inl ⟨o, h, h2, h3⟩
      · obtain rfl : o = n := by omega
        exact .inr ⟨b, h3, by rw [h2]⟩
theorem ahead_mem (l : Locks) (y : Lock) (k : Nat) (b : Int) : b ∈ lAhead l y k ↔ ∃ z ∈ l.held ++ l.queue.take k, lClash z y = true ∧ z.owner = b := by
  rw [show b ∈ lAhead l y k ↔ b ∈ aheadOf y (l.held ++ l.queue.take k) from once_mem _ _]
  unfold aheadOf
  rw [List.mem_map]
  constructor
  · rintro ⟨z, hz, rfl⟩
    obtain ⟨h1, h2⟩ := List.mem_filter.1 hz
    exact ⟨z, h1, h2, rfl⟩
  · rintro ⟨z, h1, h2, rfl⟩
    exact ⟨z, List.mem_filter.2 ⟨h1, h2⟩, rfl⟩
theorem blockers_iff (l : Locks) (o b : Int) : b ∈ lBlockers l o ↔ Ok l ∧ PE l.held l.queue o b := by
  unfold lBlockers
  cases hw : lWaits l o with
  | false =>
    simp only [Bool.false_eq_true, if_false]
    constructor
    · intro h; cases h
    · rintro ⟨h1, pre, y, post, hq, ho, _⟩
      rw [(waits_iff l o).2 ⟨h1, y, by rw [hq]; simp, ho⟩] at hw; cases hw
  | true =>
    simp only [if_true]
    obtain ⟨hok, y0, hy0, ho0⟩ := (waits_iff l o).1 hw
    have hpl : place l.queue o ≥ 0 := Classical.byContradiction fun hn => place_no hn y0 hy0 ho0
    obtain ⟨y, hy, ho⟩ := place_at hpl
    have hk := (List.getElem?_eq_some_iff.1 hy).1
    have hyk := (List.getElem?_eq_some_iff.1 hy).2
    rw [hy]
    dsimp only
    rw [ahead_mem]
    constructor
    · rintro ⟨z, hz, hc, rfl⟩
      refine ⟨hok, l.queue.take (place l.queue o).toNat, y, l.queue.drop ((place l.queue o).toNat + 1), ?_, ho, z, hz, hc, rfl⟩
      rw [← hyk, ← List.drop_eq_getElem_cons hk, List.take_append_drop]
    · rintro ⟨_, pre, x, post, hq, hxo, z, hz, hc, rfl⟩
      have hpos := place_new pre x post
      have hno : (pre.any fun y => y.owner == x.owner) = false := by
        rw [List.any_eq_false]
        intro u hu he
        have hp := hok.own
        rw [hq, List.pairwise_append] at hp
        exact hp.2.2 u hu x (List.mem_cons_self ..) (by simpa using he)
      rw [hno, ← hq, hxo] at hpos
      have hpos : place l.queue o = (pre.length : Int) := by simpa using hpos
      have hn : (place l.queue o).toNat = pre.length := by omega
      rw [hn] at hy ⊢
      rw [hq] at hy
      simp at hy
      subst hy
      refine ⟨z, ?_, hc, rfl⟩
      rw [hq, List.take_left']
      · exact hz
      · rfl
theorem edge_iff (l : Locks) (a b : Int) : (a, b) ∈ edgesL l ↔ (0 ≤ a ∧ a < 4) ∧ Ok l ∧ PE l.held l.queue a b := by
  unfold edgesL
  rw [edges_to]
  constructor
  · rintro ⟨o, h1, rfl, h⟩
    exact ⟨⟨by omega, by omega⟩, (blockers_iff _ _ _).1 h⟩
  · rintro ⟨⟨h1, h2⟩, h⟩
    obtain ⟨o, rfl⟩ : ∃ o : Nat, a = o := ⟨a.toNat, by omega⟩
    exact ⟨o, by omega, rfl, (blockers_iff _ _ _).2 h⟩
theorem hold_mem {L : List Lock} {x z : Lock} (h : z ∈ holdL L x) : z = x ∨ z ∈ L := by
  unfold holdL at h
  split at h
  · exact (List.mem_or_eq_of_mem_set h).symm
  · rcases List.mem_append.1 h with h | h
    · exact .inr h
    · exact .inl (by simpa using h)
/-- Whoever is put in its place waits for nobody anew, and nobody for it. -/
theorem pe_push {s : Locks} {x : Lock} {rest : List Lock} {o b : Int} (h : PE (push s x).held ((push s x).queue ++ rest) o b) : PE s.held (s.queue ++ x :: rest) o b := by
  unfold push at h
  rw [ahead_all] at h
  cases hc : (s.held ++ s.queue).any fun z => lClash z x with
  | true =>
    rw [hc] at h
    simp only [if_true] at h
    simpa using h
  | false =>
    rw [hc] at h
    simp only [Bool.false_eq_true, if_false] at h
    have hno : ∀ z ∈ s.queue, lClash z x = false := fun z hz => by
      rw [List.any_eq_false] at hc
      simpa using hc z (List.mem_append_right _ hz)
    obtain ⟨pre, y, post, hq, ho, z, hz, hcl, hb⟩ := h
    rcases List.append_eq_append_iff.1 hq with ⟨r1, h1, h2⟩ | ⟨q2, h1, h2⟩
    · -- y stands in what is still to come
      refine ⟨s.queue ++ x :: r1, y, post, by rw [h2]; simp, ho, z, ?_, hcl, hb⟩
      rw [h1] at hz
      simp only [List.mem_append, List.mem_cons] at hz ⊢
      rcases hz with hz | hz | hz
      · rcases hold_mem hz with rfl | hz
        · exact .inr (.inr (.inl rfl))
        · exact .inl hz
      · exact .inr (.inl hz)
      · exact .inr (.inr (.inr hz))
    · -- y stands in the queue already, or is the first of what is to come
      cases q2 with
      | nil =>
        simp at h1 h2
        refine ⟨s.queue ++ [x], y, post, by rw [← h2]; simp, ho, z, ?_, hcl, hb⟩
        rw [← h1] at hz
        simp only [List.mem_append, List.mem_singleton] at hz ⊢
        rcases hz with hz | hz
        · rcases hold_mem hz with rfl | hz
          · exact .inr (.inr rfl)
          · exact .inl hz
        · exact .inr (.inl hz)
      | cons y' q2 =>
        simp at h2
        obtain ⟨rfl, rfl⟩ := h2
        refine ⟨pre, y, q2 ++ x :: rest, by rw [h1]; simp, ho, z, ?_, hcl, hb⟩
        rcases List.mem_append.1 hz with hz | hz
        · rcases hold_mem hz with rfl | hz
          · have := hno y (by rw [h1]; simp)
            rw [clash_flip, hcl] at this; cases this
          · exact List.mem_append_left _ hz
        · exact List.mem_append_right _ hz
theorem pe_fold {o b : Int} : ∀ (rest : List Lock) (s : Locks) (g : List Int), PE (rest.foldl dropStep (s, g)).1.held (rest.foldl dropStep (s, g)).1.queue o b → PE s.held (s.queue ++ rest) o b
  | [], s, g, h => by simpa using h
  | x :: rest, s, g, h => by
    rw [List.foldl_cons, show dropStep (s, g) x = (push s x, (dropStep (s, g) x).2) from by rw [drop_push]] at h
    exact pe_push (pe_fold rest _ _ h)
theorem filter_parts {α : Type} (p : α → Bool) : ∀ (l pre : List α) (y : α) (post : List α), l.filter p = pre ++ y :: post → ∃ pre' post', l = pre' ++ y :: post' ∧ ∀ z ∈ pre, z ∈ pre'
  | [], pre, y, post, h => by simp at h
  | x :: l, pre, y, post, h => by
    cases hx : p x with
    | false =>
      rw [List.filter_cons, hx] at h
      obtain ⟨pre', post', h1, h2⟩ := filter_parts p l pre y post (by simpa using h)
      exact ⟨x :: pre', post', by rw [h1]; rfl, fun z hz => List.mem_cons_of_mem _ (h2 z hz)⟩
    | true =>
      rw [List.filter_cons, hx] at h
      cases pre with
      | nil => simp at h; obtain ⟨rfl, _⟩ := h; exact ⟨[], l, rfl, fun z hz => by cases hz⟩
      | cons u pre =>
        simp at h
        obtain ⟨rfl, h⟩ := h
        obtain ⟨pre', post', h1, h2⟩ := filter_parts p l pre y post h
        refine ⟨x :: pre', post', by rw [h1]; rfl, fun z hz => ?_⟩
        rcases List.mem_cons.1 hz with rfl | hz
        · exact List.mem_cons_self ..
        · exact List.mem_cons_of_mem _ (h2 z hz)
theorem drop_edges (l : Locks) (o : Int) : ∀ e ∈ edgesL (lDrop l o).1, e ∈ edgesL l := by
  rintro ⟨a, b⟩ he
  unfold lDrop at he
  split at he
  · exact he
  · next hn =>
    have hok : Ok l := by
      rw [← check_iff]
      cases hc : lCheck l with
      | true => rfl
      | false => rw [hc] at hn; simp at hn
    obtain ⟨h1, h2, h3⟩ := (edge_iff _ a b).1 he
    refine (edge_iff l a b).2 ⟨h1, hok, ?_⟩
    obtain ⟨pre, y, post, hq, ho, z, hz, hc, hb⟩ := pe_fold _ _ _ h3
    dsimp only at hq hz
    rw [List.nil_append] at hq
    unfold rid at hq
    obtain ⟨pre', post', h4, h5⟩ := filter_parts _ _ _ _ _ hq
    refine ⟨pre', y, post', h4, ho, z, ?_, hc, hb⟩
    rcases List.mem_append.1 hz with hz | hz
    · exact List.mem_append_left _ (rid_mem hz).1
    · exact List.mem_append_right _ (h5 z hz)
theorem stuck_drop (l : Locks) (o : Int) : ∀ x ∈ stuckM (waysM (edgesL (lDrop l o).1)), x ∈ stuckM (waysM (edgesL l)) := stuck_mono fun i j _ _ h => drop_edges l o _ h
/-- Who is stuck waits. -/
theorem stuck_waits {l : Locks} {x : Int} (h : x ∈ stuckM (waysM (edgesL l))) : lWaits l x = true := by
  obtain ⟨i, hi, rfl, hw⟩ := (stuck_mem _ _).1 h
  obtain ⟨n, W⟩ := (ways_iff _ hi hi).1 hw
  have : ∃ k, k < 4 ∧ edgesM (edgesL l) i k = true := by
    cases W with
    | one _ hj ha => exact ⟨_, hj, ha⟩
    | step _ hk ha _ => exact ⟨_, hk, ha⟩
  obtain ⟨k, hk, ha⟩ := this
  obtain ⟨_, hok, pre, y, post, hq, ho, _⟩ := (edge_iff l i k).1 ((edgesM_iff _ hi hk).1 ha)
  exact (waits_iff l i).2 ⟨hok, y, by rw [hq]; simp, ho⟩
/-- two ascending lists, the second one's members among the first one's: they are met one behind the other -/
theorem sub_step {a b : List Int} (ha : Asc a) (hb : Asc b) {i k : Nat} {x y : Int} (hx : a[i]? = some x) (hy : b[k]? = some y) (h : ∀ z ∈ b.drop k, z ∈ a.drop i) :
    if x = y then ∀ z ∈ b.drop (k + 1), z ∈ a.drop (i + 1) else ∀ z ∈ b.drop k, z ∈ a.drop (i + 1) := by
  have hi := (List.getElem?_eq_some_iff.1 hx).1
  have hk := (List.getElem?_eq_some_iff.1 hy).1
  have ea : a.drop i = x :: a.drop (i + 1) := by rw [List.drop_eq_getElem_cons hi, (List.getElem?_eq_some_iff.1 hx).2]
  have eb : b.drop k = y :: b.drop (k + 1) := by rw [List.drop_eq_getElem_cons hk, (List.getElem?_eq_some_iff.1 hy).2]
  have pa : (a.drop i).Pairwise (· < ·) := List.Pairwise.drop ha
  have pb : (b.drop k).Pairwise (· < ·) := List.Pairwise.drop hb
  rw [ea] at pa h
  rw [eb] at pb h
  rw [List.pairwise_cons] at pa pb
  split
  · next hxy =>
    intro z hz
    rcases List.mem_cons.1 (h z (List.mem_cons_of_mem _ hz)) with rfl | hz'
    · have := pb.1 _ hz; omega
    · exact hz'
  · next hxy =>
    rw [eb]
    have hyin : y ∈ a.drop (i + 1) := by
      rcases List.mem_cons.1 (h y (List.mem_cons_self ..)) with h1 | h1
      · exact absurd h1.symm hxy
      · exact h1
    intro z hz
    rcases List.mem_cons.1 hz with rfl | hz
    · exact hyin
    · rcases List.mem_cons.1 (h z (List.mem_cons_of_mem _ hz)) with rfl | hz'
      · have h1 := pb.1 _ hz
        have h2 := pa.1 _ hyin
        omega
      · exact hz'
end Go.Proofs.Ve

/- WaitLess: its body tells true. -/
set_option maxRecDepth 100000
set_option maxHeartbeats 4000000
set_option linter.all false
namespace Go.Proofs.Ve
open Go
theorem no_long : ∀ {l : List Lock}, noLong l = true → smallL l
  | [], _ => fun x hx => by cases hx
  | y :: l, h => by
    rw [noLong] at h
    cases hy : lLong y with
    | true => rw [hy] at h; cases h
    | false =>
      rw [hy] at h
      intro x hx
      rcases List.mem_cons.1 hx with rfl | hx
      · unfold lLong at hy
        simp at hy
        exact ⟨by omega, by omega⟩
      · exact no_long h x hx
theorem few_small {l : Locks} (h : few l = true) : smallLs l := by
  have ⟨h1, h2⟩ := few_le h
  unfold few at h
  split at h
  · cases h
  · cases hn : noLong l.held with
    | false => rw [hn] at h; cases h
    | true => rw [hn] at h; exact ⟨by omega, by omega, no_long hn, no_long h⟩
theorem drop_len (l : Locks) (o : Int) : (lDrop l o).1.held.length ≤ l.held.length + l.queue.length ∧ (lDrop l o).1.queue.length ≤ l.held.length + l.queue.length := by
  unfold lDrop
  split
  · dsimp only; omega
  · unfold dropAll
    have h := fold_len (⟨rid o l.held, []⟩, []) (rid o l.queue)
    have h1 := rid_len o l.held
    have h2 := rid_len o l.queue
    dsimp only [List.length_nil] at h ⊢
    omega
end Go.Proofs.Ve

/- Plain laws of waiting: who goes, and that nobody is left. -/
set_option maxRecDepth 100000
set_option linter.all false
namespace Go.Proofs.Ve
open Go
theorem max_mem (s : Nat → Int) : ∀ (xs : List Int) (b : Int), maxF s b xs ∈ b :: xs
  | [], b => by simp [maxF]
  | x :: xs, b => by
    rw [maxF]
    cases h : decide (yngr s x b > 0) with
    | true => exact List.mem_cons_of_mem _ (max_mem s xs x)
    | false =>
      rcases List.mem_cons.1 (max_mem s xs b) with h1 | h1
      · rw [cond_false, h1]; exact List.mem_cons_self ..
      · exact List.mem_cons_of_mem _ (List.mem_cons_of_mem _ h1)
theorem yngr_pos {s : Nat → Int} {x y : Int} (h : yngr s x y > 0) : s y.toNat ≤ s x.toNat := by
  unfold yngr at h
  by_cases h1 : s x.toNat < s y.toNat
  · rw [if_pos (by simpa using h1)] at h; omega
  · omega
theorem yngr_neg {s : Nat → Int} {x y : Int} (h : ¬ yngr s x y > 0) : s x.toNat ≤ s y.toNat := by
  unfold yngr at h
  by_cases h1 : s x.toNat < s y.toNat
  · omega
  · rw [if_neg (by simpa using h1)] at h
    by_cases h2 : s x.toNat > s y.toNat
    · rw [if_pos (by simpa using h2)] at h; omega
    · omega
theorem max_le (s : Nat → Int) : ∀ (xs : List Int) (b : Int), ∀ x ∈ b :: xs, s x.toNat ≤ s (maxF s b xs).toNat
  | [], b, x, hx => by simp at hx; subst hx; exact Int.le_refl _
  | y :: xs, b, x, hx => by
    rw [maxF]
    cases h : decide (yngr s y b > 0) with
    | true =>
      have hp := yngr_pos (of_decide_eq_true h)
      have hy := max_le s xs y
      rcases List.mem_cons.1 hx with rfl | hx
      · exact Int.le_trans hp (hy y (List.mem_cons_self ..))
      · exact hy x hx
    | false =>
      have hn := yngr_neg (of_decide_eq_false h)
      have hb := max_le s xs b
      rcases List.mem_cons.1 hx with rfl | hx
      · exact hb _ (List.mem_cons_self ..)
      · rcases List.mem_cons.1 hx with rfl | hx
        · exact Int.le_trans hn (hb b (List.mem_cons_self ..))
        · exact hb x (List.mem_cons_of_mem _ hx)
/-- who has gone -/
def cntG (g : Nat → Bool) : Nat := (g 0).toNat + (g 1).toNat + (g 2).toNat + (g 3).toNat
def Gone (l : Locks) (g : Nat → Bool) : Prop := ∀ x : Nat, x < 4 → g x = true → ∀ y ∈ l.held ++ l.queue, y.owner ≠ (x : Int)
theorem cntG_set {g : Nat → Bool} {v : Nat} (hv : v < 4) (h : g v = false) : cntG (fun i => bif Nat.beq i v then true else g i) = cntG g + 1 := by
  unfold cntG
  match v, hv with
  | 0, _ => show 1 + (g 1).toNat + (g 2).toNat + (g 3).toNat = _; rw [h]; simp; omega
  | 1, _ => show (g 0).toNat + 1 + (g 2).toNat + (g 3).toNat = _; rw [h]; simp; omega
  | 2, _ => show (g 0).toNat + (g 1).toNat + 1 + (g 3).toNat = _; rw [h]; simp; omega
  | 3, _ => show (g 0).toNat + (g 1).toNat + (g 2).toNat + 1 = _; rw [h]; simp
theorem cntG_all {g : Nat → Bool} (h : cntG g = 4) : ∀ x, x < 4 → g x = true := by
  unfold cntG at h
  have h0 : (g 0).toNat ≤ 1 := by cases g 0 <;> simp
  have h1 : (g 1).toNat ≤ 1 := by cases g 1 <;> simp
  have h2 : (g 2).toNat ≤ 1 := by cases g 2 <;> simp
  have h3 : (g 3).toNat ≤ 1 := by cases g 3 <;> simp
  intro x hx
  have one : ∀ b : Bool, b.toNat = 1 → b = true := fun b hb => by cases b <;> simp at hb; rfl
  match x, hx with
  | 0, _ => exact one _ (by omega)
  | 1, _ => exact one _ (by omega)
  | 2, _ => exact one _ (by omega)
  | 3, _ => exact one _ (by omega)
theorem gone_step {l : Locks} (hok : Ok l) {g : Nat → Bool} (h : Gone l g) {v : Nat} (hv : v < 4) : Ok (lDrop l v).1 ∧ Gone (lDrop l v).1 (fun i => bif Nat.beq i v then true else g i) := by
  obtain ⟨h1, h2⟩ := drop_ok hok (v : Int)
  refine ⟨h1, fun x hx hg y hy => ?_⟩
  obtain ⟨m, n⟩ := h2 y hy
  cases hb : Nat.beq x v with
  | true => rw [Nat.eq_of_beq_eq_true hb]; exact n ⟨by omega, by omega⟩
  | false => dsimp only at hg; rw [hb] at hg; exact h x hx hg y m
theorem stuck_not_gone {l : Locks} {g : Nat → Bool} (h : Gone l g) {v : Nat} (hv : v < 4) (hs : (v : Int) ∈ stuckM (waysM (edgesL l))) : Ok l ∧ g v = false := by
  obtain ⟨hok, y, hy, ho⟩ := (waits_iff l v).1 (stuck_waits hs)
  refine ⟨hok, ?_⟩
  cases hg : g v with
  | false => rfl
  | true => exact absurd ho (h v hv hg y (List.mem_append_right _ hy))
theorem gone_stuck {l : Locks} {g : Nat → Bool} (h : Gone l g) (hc : cntG g = 4) : stuckM (waysM (edgesL l)) = [] := by
  refine List.eq_nil_iff_forall_not_mem.2 fun x hx => ?_
  obtain ⟨i, hi, rfl, _⟩ := (stuck_mem _ _).1 hx
  have := (stuck_not_gone h hi hx).2
  rw [cntG_all hc i hi] at this; cases this
end Go.Proofs.Ve

/- WaitBreaks: its body tells true. -/
set_option maxRecDepth 100000
set_option maxHeartbeats 8000000
set_option linter.all false
namespace Go.Proofs.Ve
open Go
def bSt (s : Nat → Int) : Blk := .box [.d (.int .i64 (s 0)), .d (.int .i64 (s 1)), .d (.int .i64 (s 2)), .d (.int .i64 (s 3))]
end Go.Proofs.Ve

/- Break. -/
set_option maxRecDepth 100000
set_option maxHeartbeats 4000000
set_option linter.all false
namespace Go.Proofs.Ve
open Go
noncomputable def brk (s : Nat → Int) : Nat → Locks → List Int → Locks × List Int
  | 0, l, g => (l, g)
  | n + 1, l, g => match stuckM (waysM (edgesL l)) with | [] => (l, g) | b :: S => brk s n (lDrop l (maxF s b S)).1 (g ++ [maxF s b S])
theorem own_eq (l : Locks) : (lDrop l (-1)).1 = l := by
  unfold lDrop
  have : (decide ((-1 : Int) < 0)) = true := rfl
  rw [this, Bool.true_or, Bool.or_true, if_pos rfl]
theorem rowI_snoc (l : List Int) (x : Int) : rowI (l ++ [x]) = rowI l ++ [[.int .i64 x]] := by simp [rowI]
theorem c42r (l : Locks) (s : Nat → Int) (hs0 : smallLs l) (H : List (List Blk)) : CallEq X H 10 [pLocks l, pSt s] (.tuple [pLocks (brk s 4 l []).1, .row 0 0 (brk s 4 l []).2.length]) [⟨3, 1, rowI (brk s 4 l []).2⟩] := by
  have h77 := c77 l hs0
  rw [own_eq] at h77
  generalize hR : brk s 4 l [] = R
  refine callEq_of_body X_ok rfl Tryz.func10 rfl ?_
  conv => whnf
  refine ⟨_, _, h77 _, True.intro, ?_⟩
  conv => whnf
  refine loopV_of (fun i : Nat × Locks × (Nat → Bool) × List Int => ⟨[.any, .any, .any, .ptr 0 0 0, .ptr 0 1 0, .row 0 2 i.2.2.2.length, .any, .any, .any, .any, .any, .any, .any, .any, .any, .any, .any, .any, .any, .any, .any, .any, .any, .any, .any, .any, .any, .any, .any, .any, .any], [bSt s, bLocks i.2.1, .row 3 1 (rowI i.2.2.2)]⟩)
    (fun i => i.1 ≤ 4 ∧ smallLs i.2.1 ∧ cntG i.2.2.1 = i.1 ∧ Gone i.2.1 i.2.2.1 ∧ i.2.2.2.length = i.1 ∧ brk s (4 - i.1) i.2.1 i.2.2.2 = R) (fun i => 4 - i.1) (0, l, (fun _ => false), []) [1, 2, 100] ⟨Nat.zero_le _, hs0, rfl, (fun x hx hg => by cases hg), rfl, hR⟩ ?_ ?_
  · refine And.intro rfl (And.intro ?_ ?_)
    all_goals (repeat' (first | exact True.intro | exact rfl | refine And.intro ?_ ?_))
  · rintro ⟨i, l, g, G⟩ ⟨hi, hs, hc, hG, hn, hB⟩
    dsimp only at hi hs hc hG hn hB
    clear h77 hs0 hR
    have hlen := edgesL_len l
    have e1 := fun H => c33 l hs.1 hs.2.1 H
    have v1 := fun H => c30 (edgesL l) s (by omega) H
    have hin := stuck_in4 (waysM (edgesL l))
    have hng : ∀ v : Nat, v < 4 → (v : Int) ∈ stuckM (waysM (edgesL l)) → Ok l ∧ g v = false := fun v hv h => stuck_not_gone hG hv h
    have h4 : i = 4 → stuckM (waysM (edgesL l)) = [] := fun h => gone_stuck hG (by omega)
    have hB1 : brk s (4 - i) l G = if i = 4 then (l, G) else match stuckM (waysM (edgesL l)) with | [] => (l, G) | b :: S => brk s (4 - (i + 1)) (lDrop l (maxF s b S)).1 (G ++ [maxF s b S]) := by
      split
      · rename_i h; subst h; rfl
      · rw [show 4 - i = (4 - (i + 1)) + 1 by omega]; rfl
    rw [hB1] at hB
    clear hB1
    generalize stuckM (waysM (edgesL l)) = S at v1 hin hng h4 hB
    conv => whnf
    refine ⟨_, _, e1 _, True.intro, ?_⟩
    conv => whnf
    cases S with
    | nil =>
      have v1 : ∀ H, CallEq X H 24 [.d (encE (edgesL l)), pSt s] (.tuple [.d (.int .i64 0), .d (.bool false)]) [] := v1
      obtain rfl : (l, G) = R := by rw [← hB]; split <;> rfl
      refine ⟨_, _, v1 _, True.intro, ?_⟩
      conv => whnf
      refine And.intro (fun _ => ?_) (fun q => absurd q (by decide))
      conv => whnf
      refine ⟨[2], rfl, ?_, ?_⟩
      all_goals (repeat' (first | exact True.intro | exact rfl | refine And.intro ?_ ?_))
    | cons b S =>
      have hi4 : i ≠ 4 := fun h => by cases h4 h
      have v1 : ∀ H, CallEq X H 24 [.d (encE (edgesL l)), pSt s] (.tuple [.d (.int .i64 (maxF s b S)), .d (.bool true)]) [] := v1
      have hvm := max_mem s S b
      rw [if_neg hi4] at hB
      dsimp only at hB
      generalize maxF s b S = v at v1 hvm hB
      obtain ⟨n, hn4, rfl⟩ : ∃ n : Nat, n < 4 ∧ v = n := ⟨v.toNat, by have := hin v hvm; unfold in4 at this; omega, by have := hin v hvm; unfold in4 at this; omega⟩
      obtain ⟨hok, hgn⟩ := hng n hn4 hvm
      obtain ⟨ok2, g2⟩ := gone_step hok hG hn4
      have d1 := fun H => c25 l (n : Int) hs H
      have hcs := cntG_set hn4 hgn
      have sm := ok_small ok2
      unfold pDropF at d1
      generalize (lDrop l (n : Int)).1 = L2 at d1 ok2 g2 sm hB
      generalize (lDrop l (n : Int)).2 = G2 at d1
      refine ⟨_, _, v1 _, True.intro, ?_⟩
      conv => whnf
      refine And.intro (fun q => absurd q (by decide)) (fun _ => ?_)
      conv => whnf
      refine ⟨_, _, d1 _, True.intro, ?_⟩
      conv => whnf
      refine ⟨fun y hy => by simp at hy; subst hy; rfl, ?_⟩
      conv => whnf
      refine ⟨(rowI_len _).symm, by (first | (simp; omega) | (first | omega | (dsimp only; omega) | (simp; done) | (simp; omega))), ?_⟩
      conv => whnf
      refine ⟨(i + 1, L2, _, G ++ [(n : Int)]), [0, 1, 3], ⟨by show i + 1 ≤ 4; omega, sm, by show cntG _ = i + 1; rw [← hc]; exact hcs, g2, by show (G ++ [(n : Int)]).length = i + 1; simp [hn], hB⟩, by show 4 - (i + 1) < 4 - i; omega, And.intro rfl (And.intro ?_ ?_)⟩
      all_goals (repeat' (first | exact True.intro | exact rfl | refine And.intro ?_ ?_))
      · show PV.row 0 3 (G.length + 1) = PV.row 0 3 (G ++ [(n : Int)]).length
        rw [List.length_append]; rfl
      · exact (rowI_snoc G (n : Int)).symm
theorem brk_len (s : Nat → Int) : ∀ (n : Nat) (l : Locks) (g : List Int), (brk s n l g).2.length ≤ g.length + n
  | 0, l, g => Nat.le_refl _
  | n + 1, l, g => by
    unfold brk
    cases stuckM (waysM (edgesL l)) with
    | nil => exact Nat.le_add_right _ _
    | cons b S => refine Nat.le_trans (brk_len s n _ _) ?_; simp; omega
def pBrk (r : Locks × List Int) : PV := .tuple [pLocks r.1, .d (encI r.2)]
theorem c42 (l : Locks) (s : Nat → Int) (hs : smallLs l) (H : List (List Blk)) : CallEq X H 10 [pLocks l, pSt s] (pBrk (brk s 4 l [])) [] :=
  (c42r l s hs H).freeze 3 (by
    change PV.tuple [pLocks (brk s 4 l []).1, PV.d (.sl ((rowI (brk s 4 l []).2).take (brk s 4 l []).2.length))] = _
    rw [List.take_of_length_le (by rw [rowI_len]; exact Nat.le_refl _)]; rfl)
end Go.Proofs.Ve

/- Free. -/
set_option maxRecDepth 100000
set_option maxHeartbeats 4000000
set_option linter.all false
namespace Go.Proofs.Ve
open Go
theorem c81 (x y : Lock) (T1 T2 : List Blk) (rest : List Blk) (H : List (List Blk)) : CallEq X (T1 :: T2 :: (bLock x :: rest) :: H) 35 [pLock y, .ptr 3 0 0] (.d (.bool (lClash y x))) [] := by
  refine callEq_of_body X_ok rfl Tryz.func35 rfl ?_
  conv => whnf
  repeat' (first
    | (refine And.intro (fun h_ => ?_) (fun h_ => ?_) <;> (conv => whnf))
    | (refine ⟨_, _, c21 y x _, (by first | exact True.intro | exact And.intro rfl flat_nil), ?_⟩; conv => whnf)
    | (intro z_ hz_; conv => whnf)
    | (refine ⟨[], rfl, ?_, True.intro⟩; (conv => whnf); (first | done | (simp_all only [refP, Bool.not_true, Bool.not_false, Bool.true_and, Bool.false_and, Bool.and_true, Bool.and_false, Bool.true_or, Bool.false_or, Bool.or_true, Bool.or_false, Bool.not_not, Bool.not_eq_true', Bool.not_eq_false', if_true, if_false, Bool.false_eq_true, Bool.true_eq_false, List.length_map]; done)))
    | fail)
theorem i81 (p : Lock → Bool) (l0 i0 : Nat) (xs : List Lock) (H : List (List Blk)) (hlen : xs.length < 1000000) (hp : ∀ x, x ∈ xs → ∀ T, CallEq X (T :: H) 35 [pLock x, .ptr (l0 + 2) i0 0] (.d (.bool (p x))) []) :
    CallEq X H 78 [.d (.sl (xs.map cLock)), .func (.func 35) [] [.ptr (l0 + 1) i0 0]] (.d (.int .i64 (idxOf p xs 0))) [] := by
  refine callEq_of_body X_ok rfl Tryz.func78 rfl ?_
  conv => whnf
  refine loopV_of (fun k : Nat => ⟨[.d (.sl (xs.map cLock)), .func (.func 35) [] [.ptr (l0 + 1) i0 0], .any, .any, .any, .any, .any, .d (.int .i64 (xs.map cLock).length), .d (.int .i64 k), .any, .any, .any, .any, .any, .any, .any, .any, .any, .any], []⟩) (fun k => k ≤ xs.length ∧ idxOf p xs 0 = idxOf p (xs.drop k) k) (fun k => xs.length - k) 0 [] ⟨Nat.zero_le _, by simp⟩ ?_ ?_
  · refine And.intro rfl (And.intro ?_ True.intro)
    repeat' (first | exact True.intro | exact rfl | refine And.intro ?_ ?_)
  · rintro k ⟨hk, hidx⟩
    conv => whnf
    refine And.intro (fun h_ => ?_) (fun h_ => ?_)
    · conv => whnf
      have hk' : k < xs.length := by simpa using h_
      obtain ⟨x, hx⟩ : ∃ x, xs[k]? = some x := ⟨_, List.getElem?_eq_getElem hk'⟩
      have hst := idxOf_step (p := p) hx
      refine ⟨by omega, cLock x, by simp [hx], rfl, ?_⟩
      conv => whnf
      refine ⟨_, _, hp x (List.mem_of_getElem? hx) _, True.intro, ?_⟩
      conv => whnf
      refine And.intro (fun h1 => ?_) (fun h1 => ?_)
      · conv => whnf
        refine ⟨[], rfl, ?_, True.intro⟩
        show DV.int .i64 (k : Int) = .int .i64 (idxOf p xs 0)
        rw [hidx, hst, h1]; rfl
      · conv => whnf
        intro z hz
        conv => whnf
        rw [wrap_small (by omega) (by omega)] at hz
        subst hz
        refine ⟨k + 1, [], ⟨by omega, ?_⟩, by omega, And.intro rfl (And.intro ?_ True.intro)⟩
        · rw [hidx, hst, h1]; rfl
        · repeat' (first | exact True.intro | exact rfl | refine And.intro ?_ ?_)
    · conv => whnf
      have hk' : k = xs.length := by simp at h_; omega
      refine ⟨[], rfl, ?_, True.intro⟩
      show DV.int .i64 (-1) = .int .i64 (idxOf p xs 0)
      rw [hidx, hk', List.drop_length]; rfl
theorem c51g (p : Lock → Bool) (l0 i0 : Nat) (xs : List Lock) (hl : xs.length < 1000000) (H : List (List Blk)) (hp : ∀ x, x ∈ xs → ∀ T T', CallEq X (T :: T' :: H) 35 [pLock x, .ptr (l0 + 3) i0 0] (.d (.bool (p x))) []) : CallEq X H 33 [.d (encLocks xs), .func (.func 35) [] [.ptr (l0 + 1) i0 0]] (.d (.bool (xs.any p))) [] := by
  rw [← idxOf_ge _ xs 0 (Int.le_refl _)]
  refine callEq_of_body X_ok rfl Tryz.func33 rfl ?_
  conv => whnf
  repeat' (first
    | (refine And.intro (fun h_ => ?_) (fun h_ => ?_) <;> (conv => whnf))
    | (refine ⟨_, _, i81 p _ _ xs _ hl (fun x hx T => hp x hx T _), (by first | exact True.intro | exact And.intro rfl flat_nil), ?_⟩; conv => whnf)
    | (intro z_ hz_; conv => whnf)
    | (refine ⟨[], rfl, ?_, True.intro⟩; (conv => whnf); (first | done | (simp_all only [refP, Bool.not_true, Bool.not_false, Bool.true_and, Bool.false_and, Bool.and_true, Bool.and_false, Bool.true_or, Bool.false_or, Bool.or_true, Bool.or_false, Bool.not_not, Bool.not_eq_true', Bool.not_eq_false', if_true, if_false, Bool.false_eq_true, Bool.true_eq_false, List.length_map]; done)))
    | fail)
theorem c80 (l : Locks) (x : Lock) (hl : l.held.length < 1000000) (T1 T2 : List Blk) (rest : List Blk) (H : List (List Blk)) : CallEq X (T1 :: T2 :: (bLocks l :: rest) :: H) 34 [pLock x, .ptr 3 0 0] (.d (.bool (l.held.any fun y => lClash y x))) [] := by
  refine callEq_of_body X_ok rfl Tryz.func34 rfl ?_
  conv => whnf
  repeat' (first
    | (refine And.intro (fun h_ => ?_) (fun h_ => ?_) <;> (conv => whnf))
    | (refine ⟨_, _, c51g (fun y => lClash y x) 0 0 l.held hl _ (fun y _ T T' => c81 x y _ _ _ _), (by first | exact True.intro | exact And.intro rfl flat_nil), ?_⟩; conv => whnf)
    | (intro z_ hz_; conv => whnf)
    | (refine ⟨[], rfl, ?_, True.intro⟩; (conv => whnf); (first | done | (simp_all only [refP, Bool.not_true, Bool.not_false, Bool.true_and, Bool.false_and, Bool.and_true, Bool.and_false, Bool.true_or, Bool.false_or, Bool.or_true, Bool.or_false, Bool.not_not, Bool.not_eq_true', Bool.not_eq_false', if_true, if_false, Bool.false_eq_true, Bool.true_eq_false, List.length_map]; done)))
    | fail)
theorem i80 (p : Lock → Bool) (l0 i0 : Nat) (xs : List Lock) (H : List (List Blk)) (hlen : xs.length < 1000000) (hp : ∀ x, x ∈ xs → ∀ T, CallEq X (T :: H) 34 [pLock x, .ptr (l0 + 2) i0 0] (.d (.bool (p x))) []) :
    CallEq X H 78 [.d (.sl (xs.map cLock)), .func (.func 34) [] [.ptr (l0 + 1) i0 0]] (.d (.int .i64 (idxOf p xs 0))) [] := by
  refine callEq_of_body X_ok rfl Tryz.func78 rfl ?_
  conv => whnf
  refine loopV_of (fun k : Nat => ⟨[.d (.sl (xs.map cLock)), .func (.func 34) [] [.ptr (l0 + 1) i0 0], .any, .any, .any, .any, .any, .d (.int .i64 (xs.map cLock).length), .d (.int .i64 k), .any, .any, .any, .any, .any, .any, .any, .any, .any, .any], []⟩) (fun k => k ≤ xs.length ∧ idxOf p xs 0 = idxOf p (xs.drop k) k) (fun k => xs.length - k) 0 [] ⟨Nat.zero_le _, by simp⟩ ?_ ?_
  · refine And.intro rfl (And.intro ?_ True.intro)
    repeat' (first | exact True.intro | exact rfl | refine And.intro ?_ ?_)
  · rintro k ⟨hk, hidx⟩
    conv => whnf
    refine And.intro (fun h_ => ?_) (fun h_ => ?_)
    · conv => whnf
      have hk' : k < xs.length := by simpa using h_
      obtain ⟨x, hx⟩ : ∃ x, xs[k]? = some x := ⟨_, List.getElem?_eq_getElem hk'⟩
      have hst := idxOf_step (p := p) hx
      refine ⟨by omega, cLock x, by simp [hx], rfl, ?_⟩
      conv => whnf
      refine ⟨_, _, hp x (List.mem_of_getElem? hx) _, True.intro, ?_⟩
      conv => whnf
      refine And.intro (fun h1 => ?_) (fun h1 => ?_)
      · conv => whnf
        refine ⟨[], rfl, ?_, True.intro⟩
        show DV.int .i64 (k : Int) = .int .i64 (idxOf p xs 0)
        rw [hidx, hst, h1]; rfl
      · conv => whnf
        intro z hz
        conv => whnf
        rw [wrap_small (by omega) (by omega)] at hz
        subst hz
        refine ⟨k + 1, [], ⟨by omega, ?_⟩, by omega, And.intro rfl (And.intro ?_ True.intro)⟩
        · rw [hidx, hst, h1]; rfl
        · repeat' (first | exact True.intro | exact rfl | refine And.intro ?_ ?_)
    · conv => whnf
      have hk' : k = xs.length := by simp at h_; omega
      refine ⟨[], rfl, ?_, True.intro⟩
      show DV.int .i64 (-1) = .int .i64 (idxOf p xs 0)
      rw [hidx, hk', List.drop_length]; rfl
theorem c51h (p : Lock → Bool) (l0 i0 : Nat) (xs : List Lock) (hl : xs.length < 1000000) (H : List (List Blk)) (hp : ∀ x, x ∈ xs → ∀ T T', CallEq X (T :: T' :: H) 34 [pLock x, .ptr (l0 + 3) i0 0] (.d (.bool (p x))) []) : CallEq X H 33 [.d (encLocks xs), .func (.func 34) [] [.ptr (l0 + 1) i0 0]] (.d (.bool (xs.any p))) [] := by
  rw [← idxOf_ge _ xs 0 (Int.le_refl _)]
  refine callEq_of_body X_ok rfl Tryz.func33 rfl ?_
  conv => whnf
  repeat' (first
    | (refine And.intro (fun h_ => ?_) (fun h_ => ?_) <;> (conv => whnf))
    | (refine ⟨_, _, i80 p _ _ xs _ hl (fun x hx T => hp x hx T _), (by first | exact True.intro | exact And.intro rfl flat_nil), ?_⟩; conv => whnf)
    | (intro z_ hz_; conv => whnf)
    | (refine ⟨[], rfl, ?_, True.intro⟩; (conv => whnf); (first | done | (simp_all only [refP, Bool.not_true, Bool.not_false, Bool.true_and, Bool.false_and, Bool.and_true, Bool.and_false, Bool.true_or, Bool.false_or, Bool.or_true, Bool.or_false, Bool.not_not, Bool.not_eq_true', Bool.not_eq_false', if_true, if_false, Bool.false_eq_true, Bool.true_eq_false, List.length_map]; done)))
    | fail)
structure Wr where
  t : Int
  key : List UInt8
  gone : Bool
  val : List UInt8
def cWr (x : Wr) : List DV := [.int .i64 x.t, encB x.key, .bool x.gone, encB x.val]
def encW (l : List Wr) : DV := .sl (l.map cWr)
def needL (w : Int) : List Wr → List Lock
  | [] => []
  | x :: xs => ⟨w, true, ⟨x.t, [], [], false⟩, 2⟩ :: ⟨w, false, pointS x.t x.key, 5⟩ :: needL w xs
theorem needL_snoc {w : Int} {l : List Wr} {k : Nat} {x : Wr} (h : l[k]? = some x) : needL w (l.take (k + 1)) = needL w (l.take k) ++ [⟨w, true, ⟨x.t, [], [], false⟩, 2⟩, ⟨w, false, pointS x.t x.key, 5⟩] := by
  have app : ∀ a b, needL w (a ++ b) = needL w a ++ needL w b := fun a b => by induction a with | nil => rfl | cons y a ih => simp [needL, ih]
  rw [take_snoc' h, app]; rfl
theorem needL_len (w : Int) (l : List Wr) : (needL w l).length = 2 * l.length := by induction l with | nil => rfl | cons y a ih => simp [needL, ih]; omega
def lFree (l : Locks) (w : Int) (ws : List Wr) : Bool := lCheck l && !((needL w ws).any fun x => l.held.any fun y => lClash y x)
theorem c41 (l : Locks) (w : Int) (ws : List Wr) (hs : smallLs l) (hw : ws.length < 10000) (hk : ∀ x ∈ ws, x.key.length ≤ 1000000) (H : List (List Blk)) : CallEq X H 14 [pLocks l, .d (.int .i64 w), .d (encW ws)] (.d (.bool (lFree l w ws))) [] := by
  refine callEq_of_body X_ok rfl Tryz.func14 rfl ?_
  conv => whnf
  refine loopV_of (fun k : Nat => ⟨[.any, .d (.int .i64 w), .any, .ptr 0 0 0, .any, .any, .any, .row 0 1 (needL w (ws.take k)).length, .any, .any, .d (encW ws), .d (.int .i64 (ws.map cWr).length), .d (.int .i64 k), .any, .any, .any, .any, .any, .any, .any, .any, .any, .any, .any, .any, .any, .any, .any, .any, .any, .any, .any, .any, .any, .any, .any, .any, .any, .any, .any], [bLocks l, .row 53 7 ((needL w (ws.take k)).map cLock)]⟩)
    (fun k => k ≤ ws.length) (fun k => ws.length - k) 0 [0, 100] (Nat.zero_le _) ?_ ?_
  · refine And.intro rfl (And.intro ?_ ?_)
    all_goals (repeat' (first | exact True.intro | exact rfl | refine And.intro ?_ ?_))
  · intro k hkl
    conv => whnf
    refine And.intro (fun h_ => ?_) (fun h_ => ?_)
    · conv => whnf
      have hk' : k < ws.length := by simpa using h_
      obtain ⟨x, hx⟩ : ∃ x, ws[k]? = some x := ⟨_, List.getElem?_eq_getElem hk'⟩
      have hp := fun H => c71 x.t x.key (hk x (List.mem_of_getElem? hx)) H
      have hn := needL_snoc (w := w) hx
      have hlen : (needL w (ws.take k)).length ≤ 20000 := by rw [needL_len, List.length_take]; omega
      refine ⟨by omega, cWr x, by simp [hx], rfl, ?_⟩
      conv => whnf
      refine ⟨_, _, hp _, True.intro, ?_⟩
      conv => whnf
      refine ⟨fun y hy => by simp at hy; rcases hy with rfl | rfl <;> rfl, ?_⟩
      conv => whnf
      refine ⟨by simp, by (first | (simp; omega) | (first | omega | (dsimp only; omega) | (simp; done) | (simp; omega))), ?_⟩
      conv => whnf
      intro z hz
      conv => whnf
      rw [wrap_small (by omega) (by omega)] at hz
      subst hz
      refine ⟨k + 1, [0, 3], by omega, by omega, And.intro rfl (And.intro ?_ ?_)⟩
      all_goals (try rw [hn])
      all_goals (repeat' (first | exact True.intro | exact rfl | refine And.intro ?_ ?_))
      · show PV.row 0 3 ((needL w (ws.take k)).length + 2) = PV.row 0 3 (needL w (ws.take k) ++ [_, _]).length
        rw [List.length_append]; rfl
      · rw [List.map_append]; rfl
    · conv => whnf
      have hk' : k = ws.length := by simp at h_; omega
      subst hk'
      rw [List.take_length]
      have hlen : (needL w ws).length < 1000000 := by rw [needL_len]; omega
      have hh := hs.1
      have hc : ∀ H rest, CallEq X ((bLocks l :: rest) :: H) 33 [.d (encLocks (needL w ws)), .func (.func 34) [] [.ptr 1 0 0]] (.d (.bool ((needL w ws).any fun x => l.held.any fun y => lClash y x))) [] := fun H rest => c51h (fun x => l.held.any fun y => lClash y x) 0 0 (needL w ws) hlen _ (fun x _ T T' => c80 l x (by omega) _ _ _ _)
      rw [show encLocks (needL w ws) = .sl (List.take (needL w ws).length ((needL w ws).map cLock)) by rw [List.take_of_length_le (by simp)]; rfl] at hc
      have h19 := fun H => c19 l hs.1 hs.2.1 H
      unfold lFree
      generalize ((needL w ws).any fun x => l.held.any fun y => lClash y x) = b at hc ⊢
      refine ⟨_, _, h19 _, True.intro, ?_⟩
      conv => whnf
      refine And.intro (fun h => ?_) (fun h => ?_) <;> rw [h]
      · conv => whnf
        refine ⟨_, _, hc _ _, And.intro rfl flat_nil, ?_⟩
        conv => whnf
        refine ⟨[], rfl, ?_, True.intro⟩
        (repeat' (first | exact True.intro | exact rfl | refine And.intro ?_ ?_))
      · conv => whnf
        refine ⟨[], rfl, ?_, True.intro⟩
        (repeat' (first | exact True.intro | exact rfl | refine And.intro ?_ ?_))
end Go.Proofs.Ve

/- Plain laws of Break. -/
set_option maxRecDepth 100000
set_option linter.all false
namespace Go.Proofs.Ve
open Go
theorem clash_owner {a b : Lock} (h : lClash a b = true) : a.owner ≠ b.owner := fun e => by
  unfold lClash at h
  rw [show (a.owner == b.owner) = true by simp [e]] at h
  simp at h
theorem two_left {g : Nat → Bool} {i j : Nat} (hi : i < 4) (hj : j < 4) (hij : i ≠ j) (h1 : g i = false) (h2 : g j = false) : cntG g ≤ 2 := by
  unfold cntG
  have b : ∀ b : Bool, b.toNat ≤ 1 := fun b => by cases b <;> simp
  have b0 := b (g 0); have b1 := b (g 1); have b2 := b (g 2); have b3 := b (g 3)
  match i, hi, j, hj, hij with
  | 0, _, 0, _, h => exact absurd rfl h
  | 0, _, 1, _, _ => rw [h1, h2]; simp; omega
  | 0, _, 2, _, _ => rw [h1, h2]; simp; omega
  | 0, _, 3, _, _ => rw [h1, h2]; simp; omega
  | 1, _, 0, _, _ => rw [h1, h2]; simp; omega
  | 1, _, 1, _, h => exact absurd rfl h
  | 1, _, 2, _, _ => rw [h1, h2]; simp; omega
  | 1, _, 3, _, _ => rw [h1, h2]; simp; omega
  | 2, _, 0, _, _ => rw [h1, h2]; simp; omega
  | 2, _, 1, _, _ => rw [h1, h2]; simp; omega
  | 2, _, 2, _, h => exact absurd rfl h
  | 2, _, 3, _, _ => rw [h1, h2]; simp; omega
  | 3, _, 0, _, _ => rw [h1, h2]; simp; omega
  | 3, _, 1, _, _ => rw [h1, h2]; simp; omega
  | 3, _, 2, _, _ => rw [h1, h2]; simp; omega
  | 3, _, 3, _, h => exact absurd rfl h
theorem three_stuck {l : Locks} {g : Nat → Bool} (h : Gone l g) (hc : cntG g ≥ 3) : stuckM (waysM (edgesL l)) = [] := by
  refine List.eq_nil_iff_forall_not_mem.2 fun x hx => ?_
  obtain ⟨i, hi, rfl, hw⟩ := (stuck_mem _ _).1 hx
  obtain ⟨n, W⟩ := (ways_iff _ hi hi).1 hw
  have : ∃ k, k < 4 ∧ edgesM (edgesL l) i k = true := by
    cases W with
    | one _ hj ha => exact ⟨_, hj, ha⟩
    | step _ hk ha _ => exact ⟨_, hk, ha⟩
  obtain ⟨k, hk, ha⟩ := this
  obtain ⟨_, hok, pre, y, post, hq, ho, z, hz, hcl, hzo⟩ := (edge_iff l i k).1 ((edgesM_iff _ hi hk).1 ha)
  have hne := clash_owner hcl
  rw [hzo, ho] at hne
  have n1 : g i = false := by
    cases hg : g i with
    | false => rfl
    | true => exact absurd ho (h i hi hg y (by rw [hq]; simp))
  have n2 : g k = false := by
    cases hg : g k with
    | false => rfl
    | true =>
      refine absurd hzo (h k hk hg z ?_)
      rcases List.mem_append.1 hz with hz | hz
      · exact List.mem_append_left _ hz
      · rw [hq]; exact List.mem_append_right _ (List.mem_append_left _ hz)
  have := two_left hk hi (fun e => hne (by rw [e])) n2 n1
  omega
structure BrkOk (l0 : Locks) (R : Locks × List Int) : Prop where
  stuck : stuckM (waysM (edgesL R.1)) = []
  len : R.2.length ≤ 3
  waits : ∀ x ∈ R.2, lWaits l0 x = true
  gone : ∀ x ∈ R.2, ∀ y ∈ R.1.held, y.owner ≠ x
  small : smallLs R.1
theorem brk_inv (s : Nat → Int) (l0 : Locks) : ∀ (n : Nat) (l : Locks) (g : List Int) (gs : Nat → Bool), n + cntG gs = 4 → g.length = cntG gs → Gone l gs → (∀ x ∈ stuckM (waysM (edgesL l)), x ∈ stuckM (waysM (edgesL l0))) → g.length ≤ 3 → smallLs l →
    (∀ x ∈ g, lWaits l0 x = true ∧ ∃ v : Nat, v < 4 ∧ x = v ∧ gs v = true) → BrkOk l0 (brk s n l g) := by
  intro n
  induction n with
  | zero => intro l g gs h1 h2 _ _ h3; omega
  | succ n ih =>
    intro l g gs h1 h2 hG hsub h3 hs hg
    have fin : stuckM (waysM (edgesL l)) = [] → BrkOk l0 (l, g) := fun hn => by
      refine ⟨hn, h3, fun x hx => (hg x hx).1, fun x hx y hy => ?_, hs⟩
      obtain ⟨_, v, hv, rfl, hgv⟩ := hg x hx
      exact hG v hv hgv y (List.mem_append_left _ hy)
    unfold brk
    cases hS : stuckM (waysM (edgesL l)) with
    | nil => exact fin hS
    | cons b S =>
      have hvm := max_mem s S b
      rw [← hS] at hvm
      show BrkOk l0 (brk s n (lDrop l (maxF s b S)).1 (g ++ [maxF s b S]))
      generalize maxF s b S = v at hvm ⊢
      have hin := stuck_in4 (waysM (edgesL l)) v hvm
      obtain ⟨v, hv4, rfl⟩ : ∃ n : Nat, n < 4 ∧ v = n := ⟨v.toNat, by unfold in4 at hin; omega, by unfold in4 at hin; omega⟩
      obtain ⟨hok, hgv⟩ := stuck_not_gone hG hv4 hvm
      obtain ⟨ok2, G2⟩ := gone_step hok hG hv4
      have hc3 : cntG gs ≤ 2 := by
        rcases Nat.lt_or_ge (cntG gs) 3 with h | h
        · omega
        · rw [three_stuck hG h] at hvm; cases hvm
      refine ih _ _ _ (by rw [cntG_set hv4 hgv]; omega) (by rw [cntG_set hv4 hgv]; simp [h2]) G2 (fun x hx => hsub x (stuck_drop l _ x hx)) (by simp; omega) (ok_small ok2) (fun x hx => ?_)
      rcases List.mem_append.1 hx with hx | hx
      · obtain ⟨q1, u, q2, q3, q4⟩ := hg x hx
        refine ⟨q1, u, q2, q3, ?_⟩
        show (bif Nat.beq u v then true else gs u) = true
        rw [q4]; cases Nat.beq u v <;> rfl
      · simp at hx; subst hx
        refine ⟨stuck_waits (hsub _ hvm), v, hv4, rfl, ?_⟩
        show (bif Nat.beq v v then true else gs v) = true
        rw [Nat.beq_refl]; rfl
theorem brk_ok (s : Nat → Int) (l : Locks) (hs : smallLs l) : BrkOk l (brk s 4 l []) :=
  brk_inv s l 4 l [] (fun _ => false) rfl rfl (fun x _ h => by cases h) (fun _ h => h) (Nat.zero_le _) hs (fun x hx => by cases hx)
theorem brk_again (s : Nat → Int) (l : Locks) (hs : smallLs l) : brk s 4 (brk s 4 l []).1 [] = ((brk s 4 l []).1, []) := by
  have h := (brk_ok s l hs).stuck
  generalize (brk s 4 l []).1 = a at h
  unfold brk; rw [h]
end Go.Proofs.Ve

/- Hold: plain laws. -/
set_option maxRecDepth 100000
set_option linter.all false
namespace Go.Proofs.Ve
open Go
theorem ask_bad {l : Locks} (h : lCheck l = false) (x : Lock) : lAsk l x = (l, 1) := by
  unfold lAsk; rw [h]; rfl
theorem aft_bad {l : Locks} (h : lCheck l = false) : ∀ xs, aft l xs = l
  | [] => rfl
  | x :: xs => by
    show aft (lAsk l x).1 xs = l
    rw [ask_bad h]; exact aft_bad h xs
theorem aft_ok : ∀ (xs : List Lock) {l : Locks}, Ok l → Ok (aft l xs)
  | [], l, h => h
  | x :: xs, l, h => aft_ok xs (ask_ok h x).1
theorem aft_small {l : Locks} (hs : smallLs l) (xs : List Lock) : smallLs (aft l xs) := by
  cases hc : lCheck l with
  | false => rw [aft_bad hc]; exact hs
  | true => exact ok_small (aft_ok xs ((check_iff l).1 hc))
theorem oLocks_len (o : Oper) (w : Int) : (oLocks o w).length ≤ 2 := by
  unfold oLocks
  repeat' split
  all_goals simp
theorem about_small {o : Oper} (ho : smallO o) : (oAbout o).1.lo.length ≤ 1000 ∧ (oAbout o).1.hi.length ≤ 1000 := by
  obtain ⟨h1, h2, h3⟩ := ho
  unfold oAbout
  repeat' split
  all_goals simp [pointS, spanO, zeroS]; try omega
theorem oLocks_small {o : Oper} (ho : smallO o) (w : Int) : ∀ x ∈ oLocks o w, smallX x := by
  have h := about_small ho
  have hw : ∀ m, smallX (wholeL o w m) := fun m => ⟨by simp [wholeL], by simp [wholeL]⟩
  intro x hx
  unfold oLocks at hx
  repeat' split at hx
  · cases hx
  · rw [List.mem_singleton] at hx; subst hx; exact hw _
  · rw [List.mem_singleton] at hx; subst hx; exact hw _
  · rcases List.mem_cons.1 hx with rfl | hx
    · exact hw _
    · rw [List.mem_singleton] at hx; subst hx; exact ⟨by show (oAbout o).1.lo.length ≤ _; omega, by show (oAbout o).1.hi.length ≤ _; omega⟩
theorem s39 (l : Locks) (w : Int) (o : Oper) (ho : smallO o) (hs : smallLs l) (H : List (List Blk)) : CallEq X H 8 [pLocks l, .d (.int .i64 w), pOper o] (pHold (holdF l (oLocks o w))) [] := by
  have := c39 l w o ho hs (by have := oLocks_len o w; omega) (fun k x hx => ⟨by rw [own_eq]; exact aft_small hs _, oLocks_small ho w x (List.mem_of_getElem? hx)⟩) H
  unfold lHold at this
  rwa [own_eq] at this
/-! ### reckoning -/
def eHoldF : Locks → List Lock → Locks × Int
  | l, [] => (l, 0)
  | l, x :: xs => if (eAsk l x).2 != 0 then eAsk l x else eHoldF (eAsk l x).1 xs
theorem eholdF_eq : ∀ (xs : List Lock) (l : Locks), holdF l xs = eHoldF l xs
  | [], _ => rfl
  | x :: xs, l => by unfold holdF eHoldF; rw [eask_eq, eholdF_eq xs]
def smallOB (o : Oper) : Bool := Nat.ble o.key.length 100 && (Nat.ble o.hi.length 100 && Nat.ble o.val.length 100)
theorem smallO_of {o : Oper} (h : smallOB o = true) : smallO o := by
  unfold smallOB at h
  simp only [Bool.and_eq_true] at h
  exact ⟨Nat.le_of_ble_eq_true h.1, Nat.le_of_ble_eq_true h.2.1, Nat.le_of_ble_eq_true h.2.2⟩
theorem e39 (l : Locks) (w : Int) (o : Oper) (ho : smallOB o = true) (hs : smallB l = true) (H : List (List Blk)) : CallEq X H 8 [pLocks l, .d (.int .i64 w), pOper o] (pHold (eHoldF l (oLocks o w))) [] :=
  eholdF_eq _ l ▸ s39 l w o (smallO_of ho) (small_of hs) H
def eFree (l : Locks) (w : Int) (ws : List Wr) : Bool := eCheck l && !((needL w ws).any fun x => l.held.any fun y => lClash y x)
theorem e41 (l : Locks) (w : Int) (ws : List Wr) (hs : smallB l = true) (hw : Nat.blt ws.length 10000 = true) (hk : (ws.all fun x => Nat.ble x.key.length 1000000) = true) (H : List (List Blk)) : CallEq X H 14 [pLocks l, .d (.int .i64 w), .d (encW ws)] (.d (.bool (eFree l w ws))) [] := by
  have := c41 l w ws (small_of hs) (by simpa [Nat.blt_eq] using hw) (fun x hx => Nat.le_of_ble_eq_true (List.all_eq_true.1 hk x hx)) H
  unfold lFree at this
  rwa [echeck_eq] at this
end Go.Proofs.Ve

/- Hand: awake. -/
set_option maxRecDepth 100000
set_option maxHeartbeats 4000000
set_option linter.all false
namespace Go.Proofs.Ve
open Go
noncomputable def eBrk (s : Nat → Int) : Nat → Locks → List Int → Locks × List Int
  | 0, l, g => (l, g)
  | n + 1, l, g => match stuckM (waysM (eEdges l)) with | [] => (l, g) | b :: S => eBrk s n (eDrop l (maxF s b S)).1 (g ++ [maxF s b S])
theorem ebrk_eq (s : Nat → Int) : ∀ (n : Nat) (l : Locks) (g : List Int), brk s n l g = eBrk s n l g
  | 0, _, _ => rfl
  | n + 1, l, g => by
    unfold brk eBrk
    rw [eedges_eq]
    cases stuckM (waysM (eEdges l)) with
    | nil => rfl
    | cons b S => dsimp only; rw [edrop_eq, ebrk_eq s n]
theorem e42 (l : Locks) (s : Nat → Int) (hs : smallB l = true) (H : List (List Blk)) : CallEq X H 10 [pLocks l, pSt s] (pBrk (eBrk s 4 l [])) [] := ebrk_eq s 4 l [] ▸ c42 l s (small_of hs) H
def putO (s : ByteArray) : Oper := ⟨2, 0, s.data.toList, [], false, [], 0⟩
theorem c76 (s : ByteArray) (hs : s.size ≤ 1000000) (H : List (List Blk)) : CallEq X H 16 [.d (.str s)] (pOper (putO s)) [] := by
  refine callEq_of_body X_ok rfl Tryz.func16 rfl ?_
  conv => whnf
  refine ⟨rfl, by omega, ?_⟩
  conv => whnf
  refine ⟨[], rfl, ?_, ?_⟩
  all_goals (repeat' (first | exact True.intro | exact rfl | refine And.intro ?_ ?_))
def hA : Locks := (eHoldF k0 (oLocks (putO tA) 0)).1
def hB : Locks := (eHoldF hA (oLocks (putO tB) 1)).1
def hC : Locks := (eHoldF hB (oLocks (putO tB) 0)).1
def hD : Locks := (eHoldF hC (oLocks (putO tA) 1)).1
noncomputable def hX : Locks := (eBrk (fun i => [3, 7, 0, 0].getD i 0) 4 hD []).1
def tZ : ByteArray := ⟨#[122]⟩
def wA : Wr := ⟨0, [97], false, []⟩
def wZ : Wr := ⟨0, [122], false, []⟩
theorem c37 (H : List (List Blk)) : CallEq X H 4 [] (.d (.bool true)) [] := by
  refine callEq_of_body X_ok rfl Tryz.func4 rfl ?_
  conv => whnf
  refine ⟨_, _, c76 tA (by decide) _, True.intro, ?_⟩
  conv => whnf
  refine ⟨_, _, e39 k0 0 (putO tA) (by kernel_rfl) (by kernel_rfl) _, True.intro, ?_⟩
  conv => whnf
  refine ⟨_, _, c76 tB (by decide) _, True.intro, ?_⟩
  conv => whnf
  refine ⟨_, _, e39 hA 1 (putO tB) (by kernel_rfl) (by kernel_rfl) _, True.intro, ?_⟩
  conv => whnf
  refine ⟨_, _, c76 tB (by decide) _, True.intro, ?_⟩
  conv => whnf
  refine ⟨_, _, e39 hB 0 (putO tB) (by kernel_rfl) (by kernel_rfl) _, True.intro, ?_⟩
  conv => whnf
  refine ⟨_, _, c76 tA (by decide) _, True.intro, ?_⟩
  conv => whnf
  refine ⟨_, _, e39 hC 1 (putO tA) (by kernel_rfl) (by kernel_rfl) _, True.intro, ?_⟩
  conv => whnf
  refine ⟨_, _, e42 hD (fun i => [3, 7, 0, 0].getD i 0) (by kernel_rfl) _, True.intro, ?_⟩
  conv => whnf
  repeat (first
    | (refine And.intro (fun _ => ?_) (fun h => absurd (h.symm.trans (by kernel_rfl)) (show ¬ ((!true) = true) by decide)); conv => whnf)
    | (refine ⟨_, _, e16 (eBrk (fun i => [3, 7, 0, 0].getD i 0) 4 hD []).2 [1] (by kernel_rfl) _, True.intro, ?_⟩; conv => whnf)
    | (refine ⟨_, _, e23 hX 0 (by kernel_rfl) _, True.intro, ?_⟩; conv => whnf)
    | (refine ⟨_, _, e41 hA 1 [wA] (by kernel_rfl) (by kernel_rfl) (by kernel_rfl) _, True.intro, ?_⟩; conv => whnf)
    | (refine ⟨_, _, e41 hA 0 [wA] (by kernel_rfl) (by kernel_rfl) (by kernel_rfl) _, True.intro, ?_⟩; conv => whnf)
    | (refine ⟨_, _, e41 hA 1 [] (by kernel_rfl) (by kernel_rfl) (by kernel_rfl) _, True.intro, ?_⟩; conv => whnf)
    | (refine ⟨_, _, e41 hA 1 [wZ] (by kernel_rfl) (by kernel_rfl) (by kernel_rfl) _, True.intro, ?_⟩; conv => whnf))
  refine ⟨rfl, by decide, by (first | omega | (dsimp only; omega) | (simp; done) | (simp; omega)), by decide, ?_⟩
  conv => whnf
  refine ⟨_, _, e41 k41 1 [] (by kernel_rfl) (by kernel_rfl) (by kernel_rfl) _, And.intro rfl flat_nil, ?_⟩
  conv => whnf
  refine ⟨[], rfl, ?_, True.intro⟩
  show DV.bool _ = DV.bool true
  exact congrArg DV.bool (by kernel_rfl)
end Go.Proofs.Ve

/- The document's Ask and Drop are the code's. -/
set_option maxRecDepth 100000
set_option linter.all false
namespace Go.Proofs.Ve
open Go
def rSCovers (a b : Span) : Bool :=
  if rSEmpty b then true
  else if a.t != b.t || ltB b.lo a.lo then false
  else a.op || (!b.op && (ltB b.hi a.hi || eqB b.hi a.hi))
theorem scovers_eq (a b : Span) : sCovers a b = rSCovers a b := by
  unfold sCovers rSCovers
  rw [empty_eq]
  split
  · rfl
  · have h1 : decide (cmpB a.lo b.lo > 0) = ltB b.lo a.lo := by
      rw [ltB_eq, cmpB_eq]
      have := cm_flip a.lo b.lo
      rw [Bool.eq_iff_iff]; simp; omega
    have h2 : decide (cmpB b.hi a.hi ≤ 0) = (ltB b.hi a.hi || eqB b.hi a.hi) := by
      rw [ltB_eq, eqB_eq, cmpB_eq]
      rw [Bool.eq_iff_iff]; simp; omega
    rw [h1, h2]
def rServes (h x : Lock) : Bool :=
  if h.owner != x.owner || h.span.t != x.span.t then false
  else if h.whole then rCovers h.mode x.mode
  else !x.whole && (rSCovers h.span x.span && (h.mode == 5 || h.mode == x.mode))
theorem serves_eq (h x : Lock) : lServes h x = rServes h x := by
  unfold lServes rServes
  rw [scovers_eq, covers_eq]
  cases h.owner != x.owner <;> cases h.span.t != x.span.t <;> cases x.whole <;> cases h.whole <;> simp
def or64 (a b : Int) : Int := IntKind.i64.wrap (BitVec.ofInt IntKind.i64.bits a ||| BitVec.ofInt IntKind.i64.bits b).toNat
def rJoinF (a b : Int) : List Int → Int
  | [] => 5
  | m :: ms => bif rMay m == or64 (rMay a) (rMay b) then m else rJoinF a b ms
def rJoin (a b : Int) : Int := if rMay a == 0 || rMay b == 0 then 0 else rJoinF a b [1, 2, 3, 4, 5]
theorem join_doc : ∀ a ∈ ms, ∀ b ∈ ms, mJoin a b = rJoin a b := by decide
def rJoined (l : Locks) (x : Lock) : Lock := if lWhole l.held x ≥ 0 then { x with mode := rJoin x.mode (atMode l.held (lWhole l.held x).toNat) } else x
theorem joined_doc {l : Locks} {x : Lock} (h : Ok l) (hx : lMay x = true) : lJoined l x = rJoined l x := by
  unfold lJoined rJoined
  split
  · rename_i hge
    obtain ⟨_, y, hy, hp⟩ := idxOf_lt (lWholeP x) l.held 0 (by omega) hge
    have hy : l.held[(lWhole l.held x).toNat]? = some y := by simpa [lWhole] using hy
    have hw : x.whole = true ∧ y.whole = true := by
      unfold lWholeP at hp
      simp at hp
      exact ⟨hp.1.1.1, hp.1.1.2⟩
    have hm : atMode l.held (lWhole l.held x).toNat = y.mode := by unfold atMode; rw [hy]
    rw [hm, join_doc _ (mIs_mem (may_mode hx hw.1)) _ (mIs_mem (may_mode (h.may1 y (List.mem_of_getElem? hy)) hw.2))]
  · rfl
def rAsk (l : Locks) (x : Lock) : Locks × Int :=
  if !rCheck l || (!rLMay x || decide (place l.queue x.owner ≥ 0)) then (l, 1)
  else if l.held.any (fun h => rServes h x) then (l, 0)
  else if decide ((l.held.length : Int) + l.queue.length ≥ 40) then (l, 111)
  else if decide (((rAhead ⟨l.held, l.queue ++ [rJoined l x]⟩ (rJoined l x) l.queue.length).length : Int) > 0) then (⟨l.held, l.queue ++ [rJoined l x]⟩, 110)
  else (⟨holdL l.held (rJoined l x), l.queue⟩, 0)
theorem own_may {y : Lock} (h : lMay y = true) : ownOk y := by
  have := may_owner h
  unfold ownOk; omega
theorem ask_doc (l : Locks) (x : Lock) : lAsk l x = rAsk l x := by
  unfold lAsk rAsk
  rw [lcheck_eq, lmay_eq, lwaits_eq]
  unfold rWaits
  cases hc : rCheck l with
  | false => rfl
  | true =>
    cases hm : rLMay x with
    | false => simp
    | true =>
      have hok := (check_iff l).1 (lcheck_eq l ▸ hc)
      have hx : lMay x = true := lmay_eq x ▸ hm
      simp only [Bool.not_true, Bool.false_or, Bool.true_and]
      have hs : (fun h => lServes h x) = fun h => rServes h x := by funext h; exact serves_eq h x
      rw [hs, joined_doc hok hx]
      have ha : lAhead l (rJoined l x) l.queue.length = rAhead ⟨l.held, l.queue ++ [rJoined l x]⟩ (rJoined l x) l.queue.length := by
        rw [ahead_eq l _ _ (fun y hy => own_may (hok.may1 y hy)) (fun y hy => own_may (hok.may2 y hy))]
        unfold rAhead
        rw [show (⟨l.held, l.queue ++ [rJoined l x]⟩ : Locks).queue.take l.queue.length = l.queue.take l.queue.length by simp]
      rw [ha]
/-! ### Drop -/
def rDropF : List Lock → List Lock → List Lock → List Int → Locks × List Int
  | h, pre, [], g => (⟨h, pre⟩, g)
  | h, pre, x :: rest, g => if decide (((rAhead ⟨h, pre ++ x :: rest⟩ x pre.length).length : Int) > 0) then rDropF h (pre ++ [x]) rest g else rDropF (holdL h x) pre rest (g ++ [x.owner])
theorem dropF_eq : ∀ (rest h pre : List Lock) (g : List Int), (∀ y ∈ h ++ pre ++ rest, ownOk y) → rest.foldl dropStep (⟨h, pre⟩, g) = rDropF h pre rest g
  | [], h, pre, g, _ => rfl
  | x :: rest, h, pre, g, ho => by
    have e : lAhead ⟨h, pre⟩ x pre.length = rAhead ⟨h, pre ++ x :: rest⟩ x pre.length := by
      rw [ahead_eq ⟨h, pre⟩ x _ (fun y hy => ho y (by simp [hy])) (fun y hy => ho y (by simp [hy]))]
      unfold rAhead
      simp
    rw [List.foldl_cons, rDropF, ← e]
    show rest.foldl dropStep (dropStep (⟨h, pre⟩, g) x) = _
    unfold dropStep
    dsimp only
    split
    · exact dropF_eq rest h (pre ++ [x]) g (fun y hy => ho y (by simpa using hy))
    · refine dropF_eq rest (holdL h x) pre (g ++ [x.owner]) (fun y hy => ?_)
      simp only [List.mem_append] at hy
      rcases hy with (hy | hy) | hy
      · unfold holdL at hy
        split at hy
        · rcases List.mem_or_eq_of_mem_set hy with hy | rfl
          · exact ho y (by simp [hy])
          · exact ho y (by simp)
        · simp only [List.mem_append, List.mem_singleton] at hy
          rcases hy with hy | rfl
          · exact ho y (by simp [hy])
          · exact ho y (by simp)
      · exact ho y (by simp [hy])
      · exact ho y (by simp [hy])
def hasI (g : List Int) (i : Int) : Bool := g.any fun x => x == i
def bits4 (g : List Int) : List Int := bitsL [hasI g 0, hasI g 1, hasI g 2, hasI g 3] 0
def rDrop (l : Locks) (o : Int) : Locks × List Int :=
  if !rCheck l || (decide (o < 0) || decide (o > 3)) then (l, []) else ((rDropF (rid o l.held) [] (rid o l.queue) []).1, bits4 (rDropF (rid o l.held) [] (rid o l.queue) []).2)
theorem fold_got : ∀ (rest : List Lock) (s : Locks) (g : List Int), ∃ t : List Lock, (rest.foldl dropStep (s, g)).2 = g ++ t.map (·.owner) ∧ t.Sublist rest
  | [], s, g => ⟨[], by simp, .slnil⟩
  | x :: rest, s, g => by
    rw [List.foldl_cons]
    by_cases h : decide (((lAhead s x s.queue.length).length : Int) > 0) = true
    · have e : dropStep (s, g) x = (⟨s.held, s.queue ++ [x]⟩, g) := by unfold dropStep; dsimp only; rw [if_pos h]
      rw [e]
      obtain ⟨t, h1, h2⟩ := fold_got rest ⟨s.held, s.queue ++ [x]⟩ g
      exact ⟨t, h1, h2.cons x⟩
    · have e : dropStep (s, g) x = (⟨holdL s.held x, s.queue⟩, g ++ [x.owner]) := by unfold dropStep; dsimp only; rw [if_neg h]
      rw [e]
      obtain ⟨t, h1, h2⟩ := fold_got rest ⟨holdL s.held x, s.queue⟩ (g ++ [x.owner])
      exact ⟨x :: t, by rw [h1]; simp, h2.cons_cons x⟩
theorem sort_bits {g : List Int} (hn : g.Pairwise (· ≠ ·)) (h4 : ∀ x ∈ g, 0 ≤ x ∧ x < 4) : sortI g = bits4 g := by
  refine asc_eq ?_ (bitsL_asc _ _) (fun x => ?_)
  · have hs := sortI_sorted g
    have hp : (sortI g).Pairwise (· ≠ ·) := (List.Perm.pairwise_iff (fun h e => h e.symm) (List.mergeSort_perm g _)).2 hn
    exact (hs.and hp).imp fun ⟨a, b⟩ => by omega
  · rw [sortI_mem]
    unfold bits4
    rw [bitsL_mem]
    have hb : ∀ i, hasI g i = true ↔ i ∈ g := fun i => by unfold hasI; simp
    constructor
    · intro hx
      obtain ⟨h0, h3⟩ := h4 x hx
      refine ⟨x.toNat, by omega, ?_⟩
      have : x = 0 ∨ x = 1 ∨ x = 2 ∨ x = 3 := by omega
      rcases this with rfl | rfl | rfl | rfl <;> simp [(hb _).2 hx]
    · rintro ⟨k, rfl, hk⟩
      match k, hk with
      | 0, hk => simp at hk; simpa using (hb 0).1 hk
      | 1, hk => simp at hk; simpa using (hb 1).1 hk
      | 2, hk => simp at hk; simpa using (hb 2).1 hk
      | 3, hk => simp at hk; simpa using (hb 3).1 hk
      | k + 4, hk => simp at hk
theorem drop_doc (l : Locks) (o : Int) : lDrop l o = rDrop l o := by
  unfold lDrop rDrop
  rw [lcheck_eq]
  have e : decide (o ≥ 4) = decide (o > 3) := by rw [Bool.eq_iff_iff]; simp; omega
  rw [e]
  cases hc : rCheck l with
  | false => rfl
  | true =>
    have hok := (check_iff l).1 (lcheck_eq l ▸ hc)
    have ho : ∀ y ∈ rid o l.held ++ [] ++ rid o l.queue, ownOk y := fun y hy => by
      simp only [List.append_nil, List.mem_append] at hy
      rcases hy with hy | hy
      · exact own_may (hok.may1 y (rid_mem hy).1)
      · exact own_may (hok.may2 y (rid_mem hy).1)
    have e1 : dropAll l o = rDropF (rid o l.held) [] (rid o l.queue) [] := dropF_eq _ _ _ _ ho
    rw [← e1]
    split
    · rfl
    · refine congrArg (Prod.mk _) (sort_bits ?_ ?_)
      · obtain ⟨t, h1, h2⟩ := fold_got (rid o l.queue) ⟨rid o l.held, []⟩ []
        show ((rid o l.queue).foldl dropStep (⟨rid o l.held, []⟩, [])).2.Pairwise _
        rw [h1, List.nil_append, List.pairwise_map]
        exact (hok.own.sublist (h2.trans (List.filter_sublist ..)))
      · obtain ⟨t, h1, h2⟩ := fold_got (rid o l.queue) ⟨rid o l.held, []⟩ []
        intro x hx
        have hx : x ∈ ((rid o l.queue).foldl dropStep (⟨rid o l.held, []⟩, [])).2 := hx
        rw [h1, List.nil_append] at hx
        obtain ⟨y, hy, rfl⟩ := List.mem_map.1 hx
        have := hok.may2 y (rid_mem (h2.subset hy)).1
        exact may_owner this
end Go.Proofs.Ve

/- The document's functions on locks: who serves, the place of a Whole lock, the least mode of two, few writes. -/
set_option maxRecDepth 100000
set_option maxHeartbeats 4000000
set_option linter.all false
namespace Go.Proofs.Ve
open Go
def gSCovers (a b : Span) : Bool :=
  if rSEmpty b then true
  else if a.t != b.t || !(ltB a.lo b.lo || eqB a.lo b.lo) then false
  else a.op || (!b.op && (ltB b.hi a.hi || eqB b.hi a.hi))
theorem gcovers_eq (a b : Span) : gSCovers a b = rSCovers a b := by
  unfold gSCovers rSCovers
  have h : (!(ltB a.lo b.lo || eqB a.lo b.lo)) = ltB b.lo a.lo := by
    rw [ltB_eq, eqB_eq, ltB_eq]
    have := cm_flip a.lo b.lo
    have h2 := cm_flip b.lo a.lo
    rw [Bool.eq_iff_iff]; simp; omega
  rw [h]
theorem d_covers (a b : Span) (H : List (List Blk)) : CallEq X H 94 [pSpan a, pSpan b] (.d (.bool (rSCovers a b))) [] := by
  rw [← gcovers_eq]
  have h93 := fun H => c93 b H
  unfold gSCovers ltB eqB toBA
  generalize rSEmpty b = e at h93 ⊢
  refine callEq_of_body X_ok rfl Tryz.func94 rfl ?_
  conv => whnf
  repeat' (first
    | (refine And.intro (fun h_ => ?_) (fun h_ => ?_) <;> (conv => whnf))
    | (refine ⟨_, _, h93 _, (by first | exact True.intro | exact And.intro rfl flat_nil), ?_⟩; conv => whnf)
    | (refine ⟨_, rfl, ?_⟩; conv => whnf)
    | (intro z_ hz_; conv => whnf)
    | (refine ⟨[], rfl, ?_, True.intro⟩; (conv => whnf); (first | done | (simp_all only [refP, Bool.not_true, Bool.not_false, Bool.true_and, Bool.false_and, Bool.and_true, Bool.and_false, Bool.true_or, Bool.false_or, Bool.or_true, Bool.or_false, Bool.not_not, Bool.not_eq_true', Bool.not_eq_false', if_true, if_false, Bool.false_eq_true, Bool.true_eq_false, List.length_map]; done)))
    | fail)
theorem d_serves (h x : Lock) (H : List (List Blk)) : CallEq X H 53 [pLock h, pLock x] (.d (.bool (rServes h x))) [] := by
  unfold rServes
  refine callEq_of_body X_ok rfl Tryz.func53 rfl ?_
  conv => whnf
  repeat' (first
    | (refine And.intro (fun h_ => ?_) (fun h_ => ?_) <;> (conv => whnf))
    | (refine ⟨_, _, c55 _ _ _, (by first | exact True.intro | exact And.intro rfl flat_nil), ?_⟩; conv => whnf)
    | (refine ⟨_, _, d_covers h.span x.span _, (by first | exact True.intro | exact And.intro rfl flat_nil), ?_⟩; conv => whnf)
    | (intro z_ hz_; conv => whnf)
    | (refine ⟨[], rfl, ?_, True.intro⟩; (conv => whnf); (first | done | (simp_all only [refP, Bool.not_true, Bool.not_false, Bool.true_and, Bool.false_and, Bool.and_true, Bool.and_false, Bool.true_or, Bool.false_or, Bool.or_true, Bool.or_false, Bool.not_not, Bool.not_eq_true', Bool.not_eq_false', if_true, if_false, Bool.false_eq_true, Bool.true_eq_false, List.length_map]; done)))
    | fail)
theorem d_whole (l : Locks) (x : Lock) (hl : l.held.length < 1000000) (H : List (List Blk)) : CallEq X H 54 [pLocks l, pLock x] (.d (.int .i64 (lWhole l.held x))) [] := by
  unfold lWhole
  refine callEq_of_body X_ok rfl Tryz.func54 rfl ?_
  conv => whnf
  refine loopV_of (fun k : Nat => ⟨[.any, .any, .ptr 0 0 0, .ptr 0 1 0, .any, .d (.int .i64 k), .any, .any, .any, .any, .any, .any, .any, .any, .any, .any, .any, .any, .any, .any, .any, .any, .any, .any, .any, .any, .any, .any, .any, .any, .any, .any, .any, .any, .any, .any, .any, .any, .any, .any, .any, .any, .any, .any, .any, .any, .any, .any], [bLocks l, bLock x]⟩)
    (fun k => k ≤ l.held.length ∧ idxOf (lWholeP x) l.held 0 = idxOf (lWholeP x) (l.held.drop k) k) (fun k => l.held.length - k) 0 [0, 1] ⟨Nat.zero_le _, rfl⟩ ?_ ?_
  · refine And.intro rfl (And.intro ?_ ?_)
    all_goals (repeat' (first | exact True.intro | exact rfl | refine And.intro ?_ ?_))
  · rintro k ⟨hk, hidx⟩
    conv => whnf
    refine And.intro (fun h_ => ?_) (fun h_ => ?_)
    · conv => whnf
      have hk' : k < l.held.length := by simpa using h_
      obtain ⟨y, hy⟩ : ∃ y, l.held[k]? = some y := ⟨_, List.getElem?_eq_getElem hk'⟩
      have hst := idxOf_step (p := lWholeP x) hy
      have yes : lWholeP x y = true → DV.int .i64 (k : Int) = .int .i64 (idxOf (lWholeP x) l.held 0) := fun h => by rw [hidx, hst, h]; rfl
      have no : lWholeP x y = false → idxOf (lWholeP x) l.held 0 = idxOf (lWholeP x) (l.held.drop (k + 1)) (k + 1 : Nat) := fun h => by rw [hidx, hst, h]; rfl
      unfold lWholeP at yes no
      repeat' (first
        | (refine And.intro (fun h1 => ?_) (fun h1 => ?_) <;> (conv => whnf))
        | (refine ⟨by omega, cLock y, by simp [hy], rfl, ?_⟩; conv => whnf)
        | (refine ⟨[], rfl, yes (by simp_all), True.intro⟩; done)
        | (intro z hz; conv => whnf
           rw [wrap_small (by omega) (by omega)] at hz
           subst hz
           refine ⟨k + 1, [0, 1], ⟨by omega, no (by simp_all)⟩, by omega, And.intro rfl (And.intro ?_ ?_)⟩
           all_goals (repeat' (first | exact True.intro | exact rfl | refine And.intro ?_ ?_))
           done)
        | fail)
    · conv => whnf
      have hk' : k = l.held.length := by simp at h_; omega
      refine ⟨[], rfl, ?_, True.intro⟩
      show DV.int .i64 (-1) = .int .i64 (idxOf (lWholeP x) l.held 0)
      rw [hidx, hk', List.drop_length]; rfl
theorem d_join (a b : Int) (H : List (List Blk)) : CallEq X H 55 [.d (.int .i64 a), .d (.int .i64 b)] (.d (.int .i64 (rJoin a b))) [] := by
  have h0 : (rMay a == 0 || rMay b == 0) = true → rJoin a b = 0 := fun h => by unfold rJoin; rw [if_pos h]
  have h1 : (rMay a == 0 || rMay b == 0) = false → rJoin a b = rJoinF a b [1, 2, 3, 4, 5] := fun h => by unfold rJoin; rw [if_neg (by simp [h])]
  refine callEq_of_body X_ok rfl Tryz.func55 rfl ?_
  conv => whnf
  refine ⟨_, _, c91 a _, True.intro, ?_⟩
  conv => whnf
  refine And.intro (fun q1 => ?_) (fun q1 => ?_) <;> (conv => whnf)
  · refine ⟨_, _, c91 b _, True.intro, ?_⟩
    conv => whnf
    refine And.intro (fun q2 => ?_) (fun q2 => ?_) <;> (conv => whnf)
    · refine ⟨[], rfl, ?_, True.intro⟩
      show DV.int .i64 0 = .int .i64 (rJoin a b)
      rw [h0 (by rw [q1, q2]; rfl)]
    · have h1 := h1 (by rw [q1, q2]; rfl)
      refine loopV_of (fun k : Nat => ⟨[.d (.int .i64 a), .d (.int .i64 b), .any, .any, .any, .d (.int .i64 ((k : Int) + 1)), .any, .any, .any, .any, .any, .any, .any, .any, .any, .any, .any, .any, .any, .any, .any, .any, .any, .any, .any, .any, .any], []⟩)
        (fun k => k ≤ 5 ∧ rJoin a b = rJoinF a b (([1, 2, 3, 4, 5] : List Int).drop k)) (fun k => 5 - k) 0 [] ⟨Nat.zero_le _, h1⟩ ?_ ?_
      · refine And.intro rfl (And.intro ?_ ?_)
        all_goals (repeat' (first | exact True.intro | exact rfl | refine And.intro ?_ ?_))
      · rintro k ⟨hk, hidx⟩
        conv => whnf
        refine And.intro (fun h_ => ?_) (fun h_ => ?_)
        · conv => whnf
          have hk' : k < 5 := by simp at h_; omega
          have hst : rJoinF a b (([1, 2, 3, 4, 5] : List Int).drop k) = bif rMay ((k : Int) + 1) == or64 (rMay a) (rMay b) then (k : Int) + 1 else rJoinF a b (([1, 2, 3, 4, 5] : List Int).drop (k + 1)) := by
            match k, hk' with
            | 0, _ | 1, _ | 2, _ | 3, _ | 4, _ => rfl
          refine ⟨_, _, c91 _ _, True.intro, ?_⟩
          conv => whnf
          refine ⟨_, _, c91 a _, True.intro, ?_⟩
          conv => whnf
          refine ⟨_, _, c91 b _, True.intro, ?_⟩
          conv => whnf
          intro z hz
          change z = or64 (rMay a) (rMay b) at hz
          subst hz
          conv => whnf
          refine And.intro (fun q3 => ?_) (fun q3 => ?_) <;> (conv => whnf)
          · refine ⟨[], rfl, ?_, True.intro⟩
            show DV.int .i64 _ = .int .i64 (rJoin a b)
            rw [hidx, hst, q3]; rfl
          · intro z hz
            conv => whnf
            rw [wrap_small (by omega) (by omega)] at hz
            subst hz
            refine ⟨k + 1, [], ⟨by omega, by rw [hidx, hst, q3]; rfl⟩, by omega, And.intro rfl (And.intro ?_ ?_)⟩
            all_goals (repeat' (first | exact True.intro | exact rfl | refine And.intro ?_ ?_))
        · conv => whnf
          have hk' : k = 5 := by simp at h_; omega
          refine ⟨[], rfl, ?_, True.intro⟩
          show DV.int .i64 5 = .int .i64 (rJoin a b)
          rw [hidx, hk']; rfl
  · refine ⟨[], rfl, ?_, True.intro⟩
    show DV.int .i64 0 = .int .i64 (rJoin a b)
    rw [h0 (by rw [q1]; rfl)]
/-! ### few writes -/
def wLong (x : Wr) : Bool := decide (((x.key.map fun b => [DV.int .u8 b.toNat]).length : Int) > 100) || decide (((x.val.map fun b => [DV.int .u8 b.toNat]).length : Int) > 100)
def wNoLong : List Wr → Bool
  | [] => true
  | x :: xs => bif wLong x then false else wNoLong xs
theorem wNoLong_step {l : List Wr} {k : Nat} {x : Wr} (h : l[k]? = some x) : wNoLong (l.drop k) = bif wLong x then false else wNoLong (l.drop (k + 1)) := by
  have hk := (List.getElem?_eq_some_iff.1 h).1
  rw [List.drop_eq_getElem_cons hk, (List.getElem?_eq_some_iff.1 h).2, wNoLong]
def wFew (l : List Wr) : Bool := if decide (((l.map cWr).length : Int) > 30) then false else wNoLong l
theorem d_few (l : List Wr) (H : List (List Blk)) : CallEq X H 7 [.agg [.d (encW l), .d (.sl [])]] (.d (.bool (wFew l))) [] := by
  refine callEq_of_body X_ok rfl Tryz.func7 rfl ?_
  conv => whnf
  refine And.intro (fun h1 => ?_) (fun h1 => ?_) <;> (conv => whnf)
  · have hf : wFew l = wNoLong l := by unfold wFew; rw [h1]; rfl
    have b1 : l.length ≤ 30 := by simp at h1; omega
    refine And.intro (fun h2 => absurd h2 (by decide)) (fun _ => ?_)
    conv => whnf
    refine loopV_of (fun k : Nat => ⟨[.any, .ptr 0 0 0, .any, .d (.int .i64 k), .any, .any, .any, .any, .any, .any, .any, .any, .any, .any, .any, .any, .any, .any, .any, .any, .any, .any, .any, .any, .any, .any, .any, .any, .any, .any, .any, .any, .any, .any, .any, .any, .any, .any, .any], [.box [.d (encW l), .d (.sl [])]]⟩)
      (fun k => k ≤ l.length ∧ wNoLong l = wNoLong (l.drop k)) (fun k => l.length - k) 0 [0] ⟨Nat.zero_le _, rfl⟩ ?_ ?_
    · refine And.intro rfl (And.intro ?_ ?_)
      all_goals (repeat' (first | exact True.intro | exact rfl | refine And.intro ?_ ?_))
    · rintro k ⟨hk, hidx⟩
      conv => whnf
      refine And.intro (fun h_ => ?_) (fun h_ => ?_)
      · conv => whnf
        have hk' : k < l.length := by simpa using h_
        obtain ⟨x, hx⟩ : ∃ x, l[k]? = some x := ⟨_, List.getElem?_eq_getElem hk'⟩
        have hst := wNoLong_step hx
        have yes : wLong x = true → DV.bool false = .bool (wFew l) := fun h => by rw [hf, hidx, hst, h]; rfl
        have no : wLong x = false → wNoLong l = wNoLong (l.drop (k + 1)) := fun h => by rw [hidx, hst, h]; rfl
        unfold wLong at yes no
        repeat' (first
          | (refine And.intro (fun h3 => ?_) (fun h3 => ?_) <;> (conv => whnf))
          | (refine ⟨by omega, cWr x, by simp [hx], rfl, ?_⟩; conv => whnf)
          | (refine ⟨[], rfl, yes (by simp_all), True.intro⟩; done)
          | (intro z hz; conv => whnf
             rw [wrap_small (by omega) (by omega)] at hz
             subst hz
             refine ⟨k + 1, [0], ⟨by omega, no (by simp_all)⟩, by omega, And.intro rfl (And.intro ?_ ?_)⟩
             all_goals (repeat' (first | exact True.intro | exact rfl | refine And.intro ?_ ?_))
             done)
          | fail)
      · conv => whnf
        have hk' : k = l.length := by simp at h_; omega
        refine ⟨[], rfl, ?_, True.intro⟩
        show DV.bool true = .bool (wFew l)
        rw [hf, hidx, hk', List.drop_length]; rfl
  · refine ⟨[], rfl, ?_, True.intro⟩
    show DV.bool false = .bool (wFew l)
    unfold wFew; rw [h1]; rfl
end Go.Proofs.Ve

/- Copies of spans, and of locks. -/
set_option maxRecDepth 100000
set_option maxHeartbeats 4000000
set_option linter.all false
namespace Go.Proofs.Ve
open Go
theorem takeB (b : List UInt8) : (b.map fun x => [DV.int .u8 x.toNat]).length = b.length := by simp
theorem one_ok {b : List UInt8} : ∀ y ∈ (b.map fun x => [DV.int .u8 x.toNat]), y.length = 1 := fun y hy => by simp only [List.mem_map] at hy; obtain ⟨_, _, rfl⟩ := hy; rfl
def rSpans (l : List Span) : RowB := ⟨51, 4, l.map cSpan⟩
def smallS (x : Span) : Prop := x.lo.length ≤ 1000000 ∧ x.hi.length ≤ 1000000
theorem d_spansR (xs : List Span) (hl : xs.length < 100000) (hs : ∀ x ∈ xs, smallS x) (H : List (List Blk)) : CallEq X H 47 [.d (.sl (xs.map cSpan))] (.row 0 0 xs.length) [rSpans xs] := by
  refine callEq_of_bodyF X_ok true false (mo := []) (by kernel_rfl) Tryz.func47 rfl ?_
  conv => whnf
  refine loopV_of (fun k : Nat => ⟨[.d (.sl (xs.map cSpan)), .any, .any, .row 0 0 (xs.take k).length, .d (.int .i64 k), .any, .any, .any, .any, .any, .any, .any, .any, .any, .any, .any, .any, .any, .any, .any, .any, .any, .any, .any, .any, .any, .any, .any, .any, .any, .any, .any, .any, .any, .any, .any, .any, .any, .any, .any], [.row 51 4 ((xs.take k).map cSpan)]⟩)
    (fun k => k ≤ xs.length) (fun k => xs.length - k) 0 [100] (Nat.zero_le _) ?_ ?_
  · refine And.intro rfl (And.intro ?_ ?_)
    all_goals (repeat' (first | exact True.intro | exact rfl | refine And.intro ?_ ?_))
  · intro k hk
    conv => whnf
    refine And.intro (fun h_ => ?_) (fun h_ => ?_)
    · conv => whnf
      have hk' : k < xs.length := by simpa using h_
      obtain ⟨x, hx⟩ : ∃ x, xs[k]? = some x := ⟨_, List.getElem?_eq_getElem hk'⟩
      obtain ⟨b1, b2⟩ := hs x (List.mem_of_getElem? hx)
      have hn := take_snoc' hx
      have hlen : (xs.take k).length ≤ 100000 := by rw [List.length_take]; omega
      repeat' (first
        | (refine ⟨by omega, cSpan x, by simp [hx], rfl, ?_⟩; conv => whnf)
        | (refine ⟨one_ok, ?_⟩; (conv => whnf); refine ⟨by show (List.map _ _).length * 1 ≤ 140737488355328; rw [takeB]; omega, ?_⟩; conv => whnf)
        | fail)
      refine ⟨fun y hy => by simp at hy; subst hy; rfl, ?_⟩
      conv => whnf
      refine ⟨by simp, by (first | (simp; omega) | (first | omega | (dsimp only; omega) | (simp; done) | (simp; omega))), ?_⟩
      conv => whnf
      intro z hz
      conv => whnf
      rw [wrap_small (by omega) (by omega)] at hz
      subst hz
      refine ⟨k + 1, [1], by omega, by omega, And.intro rfl (And.intro ?_ ?_)⟩
      all_goals (try rw [hn])
      all_goals (repeat' (first | exact True.intro | exact rfl | refine And.intro ?_ ?_))
      · show PV.row 0 1 ((xs.take k).length + 1) = PV.row 0 1 (xs.take k ++ [_]).length
        rw [List.length_append]; rfl
      · rw [List.map_append]; rfl
    · conv => whnf
      have hk' : k = xs.length := by simp at h_; omega
      subst hk'
      rw [List.take_length]
      refine ⟨[0], rfl, ?_, ?_⟩
      all_goals (repeat' (first | exact True.intro | exact rfl | refine And.intro ?_ ?_))
theorem d_spans (xs : List Span) (hl : xs.length < 100000) (hs : ∀ x ∈ xs, smallS x) (H : List (List Blk)) : CallEq X H 47 [.d (.sl (xs.map cSpan))] (.d (.sl (xs.map cSpan))) [] :=
  (d_spansR xs hl hs H).freeze 2 (by
    change PV.d (.sl ((xs.map cSpan).take xs.length)) = _
    rw [List.take_of_length_le (by simp)])
theorem d_span1 (x : Span) (hs : smallS x) (H : List (List Blk)) : CallEq X H 47 [.d (.sl [cSpan x])] (.d (.sl [cSpan x])) [] := d_spans [x] (by simp) (fun y hy => by simp at hy; subst hy; exact hs) H
/-! ### locks -/
theorem d_copyR (l : Locks) (hs : smallLs l) (H : List (List Blk)) : CallEq X H 21 [pLocks l] (rowsL l) [rLocks l.held, rLocks l.queue] := by
  obtain ⟨h1, h2, h3, h4⟩ := hs
  refine callEq_of_body X_ok rfl Tryz.func21 rfl ?_
  conv => whnf
  refine loopV_of (fun k : Nat => ⟨[.any, .ptr 0 0 0, .ptr 0 1 0, .ptr 0 2 0, .d (.int .i64 k), .any, .any, .any, .any, .any, .any, .any, .any, .any, .any, .any, .any, .any, .any, .any, .any, .any, .any, .any, .any, .any, .any, .any, .any, .any, .any, .any, .any, .any, .any, .any, .any, .any, .any, .any, .any, .any, .any, .any, .any, .any, .any, .any, .any, .any, .any, .any, .any, .any, .any, .any, .any, .any, .any, .any], [bLocks l, .box [.nils, .nils], .box [.row 0 3 (l.held.take k).length, .nils], .row 53 7 ((l.held.take k).map cLock)]⟩)
    (fun k => k ≤ l.held.length) (fun k => l.held.length - k) 0 [0, 1, 2, 100] (Nat.zero_le _) ?_ ?_
  · refine And.intro rfl (And.intro ?_ ?_)
    all_goals (repeat' (first | exact True.intro | exact rfl | refine And.intro ?_ ?_))
  · intro k hk
    conv => whnf
    refine And.intro (fun h_ => ?_) (fun h_ => ?_)
    · conv => whnf
      have hk' : k < l.held.length := by simpa using h_
      obtain ⟨x, hx⟩ : ∃ x, l.held[k]? = some x := ⟨_, List.getElem?_eq_getElem hk'⟩
      have hx1 := h3 x (List.mem_of_getElem? hx)
      have hn := take_snoc' hx
      have hlen : (l.held.take k).length ≤ 100000 := by rw [List.length_take]; omega
      refine ⟨by omega, cLock x, by simp [hx], rfl, ?_⟩
      conv => whnf
      refine ⟨_, _, d_span1 x.span hx1 _, True.intro, ?_⟩
      conv => whnf
      refine ⟨by omega, cSpan x.span, rfl, rfl, ?_⟩
      conv => whnf
      refine ⟨fun y hy => by simp at hy; subst hy; rfl, ?_⟩
      conv => whnf
      refine ⟨by simp, by (first | (simp; omega) | (first | omega | (dsimp only; omega) | (simp; done) | (simp; omega))), ?_⟩
      conv => whnf
      intro z hz
      conv => whnf
      rw [wrap_small (by omega) (by omega)] at hz
      subst hz
      refine ⟨k + 1, [0, 1, 2, 5], by omega, by omega, And.intro rfl (And.intro ?_ ?_)⟩
      all_goals (try rw [hn])
      all_goals (repeat' (first | exact True.intro | exact rfl | refine And.intro ?_ ?_))
      · show PV.row 0 5 ((l.held.take k).length + 1) = PV.row 0 5 (l.held.take k ++ [_]).length
        rw [List.length_append]; rfl
      · rw [List.map_append]; rfl
    · conv => whnf
      have hk' : k = l.held.length := by simp at h_; omega
      subst hk'
      rw [List.take_length]
      refine loopV_of (fun k : Nat => ⟨[.any, .ptr 0 0 0, .ptr 0 1 0, .ptr 0 2 0, .any, .any, .d (.int .i64 k), .any, .any, .any, .any, .any, .any, .any, .any, .any, .any, .any, .any, .any, .any, .any, .any, .any, .any, .any, .any, .any, .any, .any, .any, .any, .any, .any, .any, .any, .any, .any, .any, .any, .any, .any, .any, .any, .any, .any, .any, .any, .any, .any, .any, .any, .any, .any, .any, .any, .any, .any, .any, .any], [bLocks l, .box [.nils, .nils], .box [.row 0 3 l.held.length, .row 0 4 (l.queue.take k).length], .row 53 7 (l.held.map cLock), .row 53 7 ((l.queue.take k).map cLock)]⟩)
        (fun k => k ≤ l.queue.length) (fun k => l.queue.length - k) 0 [0, 1, 2, 3, 100] (Nat.zero_le _) ?_ ?_
      · refine And.intro rfl (And.intro ?_ ?_)
        all_goals (repeat' (first | exact True.intro | exact rfl | refine And.intro ?_ ?_))
      · intro k hk
        conv => whnf
        refine And.intro (fun h_ => ?_) (fun h_ => ?_)
        · conv => whnf
          have hk' : k < l.queue.length := by simpa using h_
          obtain ⟨x, hx⟩ : ∃ x, l.queue[k]? = some x := ⟨_, List.getElem?_eq_getElem hk'⟩
          have hx1 := h4 x (List.mem_of_getElem? hx)
          have hn := take_snoc' hx
          have hlen : (l.queue.take k).length ≤ 100000 := by rw [List.length_take]; omega
          refine ⟨by omega, cLock x, by simp [hx], rfl, ?_⟩
          conv => whnf
          refine ⟨_, _, d_span1 x.span hx1 _, True.intro, ?_⟩
          conv => whnf
          refine ⟨by omega, cSpan x.span, rfl, rfl, ?_⟩
          conv => whnf
          refine ⟨fun y hy => by simp at hy; subst hy; rfl, ?_⟩
          conv => whnf
          refine ⟨by simp, by (first | (simp; omega) | (first | omega | (dsimp only; omega) | (simp; done) | (simp; omega))), ?_⟩
          conv => whnf
          intro z hz
          conv => whnf
          rw [wrap_small (by omega) (by omega)] at hz
          subst hz
          refine ⟨k + 1, [0, 1, 2, 3, 6], by omega, by omega, And.intro rfl (And.intro ?_ ?_)⟩
          all_goals (try rw [hn])
          all_goals (repeat' (first | exact True.intro | exact rfl | refine And.intro ?_ ?_))
          · show PV.row 0 6 ((l.queue.take k).length + 1) = PV.row 0 6 (l.queue.take k ++ [_]).length
            rw [List.length_append]; rfl
          · rw [List.map_append]; rfl
        · conv => whnf
          have hk' : k = l.queue.length := by simp at h_; omega
          subst hk'
          rw [List.take_length]
          exact ⟨[3, 4], rfl, (by (repeat' (first | exact True.intro | exact rfl | refine And.intro ?_ ?_))), And.intro (And.intro rfl (And.intro rfl rfl)) (And.intro (And.intro rfl (And.intro rfl rfl)) True.intro)⟩
theorem d_copy (l : Locks) (hs : smallLs l) (H : List (List Blk)) : CallEq X H 21 [pLocks l] (pLocks l) [] := (d_copyR l hs H).freeze 2 (fzL l)
end Go.Proofs.Ve

/- Points, an operation's span and locks. -/
set_option maxRecDepth 100000
set_option maxHeartbeats 4000000
set_option linter.all false
namespace Go.Proofs.Ve
open Go
theorem d_point (t : Int) (k : List UInt8) (hk : k.length ≤ 1000000) (H : List (List Blk)) : CallEq X H 38 [.d (.int .i64 t), .d (encB k)] (pSpan (pointS t k)) [] := by
  have base : CallEq X H 38 [.d (.int .i64 t), .d (encB k)] (.agg [.d (.int .i64 t), .row 0 0 k.length, .row 0 1 (k.length + 1), .d (.bool false)]) [⟨5, 1, rowB k⟩, ⟨5, 1, rowB (k ++ [0])⟩] := by
    refine callEq_of_body X_ok rfl Tryz.func38 rfl ?_
    conv => whnf
    refine ⟨one_ok, ?_⟩
    conv => whnf
    refine ⟨rfl, by show (0 + (List.map _ _).length) * 1 ≤ 140737488355328; rw [takeB]; omega, ?_⟩
    conv => whnf
    refine ⟨one_ok, ?_⟩
    conv => whnf
    refine ⟨rfl, by show (0 + (List.map _ _).length) * 1 ≤ 140737488355328; rw [takeB]; omega, ?_⟩
    conv => whnf
    refine ⟨fun y hy => by simp at hy; subst hy; rfl, ?_⟩
    conv => whnf
    refine ⟨by simp, by show (0 + (List.map _ _).length + 1) * 1 ≤ 140737488355328; rw [takeB]; omega, ?_⟩
    conv => whnf
    refine ⟨[2, 5], rfl, ?_, ?_⟩
    all_goals (repeat' (first | exact True.intro | exact rfl | refine And.intro ?_ ?_))
    · show PV.row 0 2 (0 + (List.map _ k).length) = PV.row 0 2 k.length
      rw [takeB, Nat.zero_add]
    · show PV.row 0 5 (0 + (List.map _ k).length + 1) = PV.row 0 5 (k.length + 1)
      rw [takeB, Nat.zero_add]
    · show _ = rowB (k ++ [0])
      unfold rowB; rw [List.map_append]; rfl
  refine base.freeze 2 ?_
  change PV.agg [.d (.int .i64 t), .d (.sl (List.take k.length (rowB k))), .d (.sl (List.take (k.length + 1) (rowB (k ++ [0])))), .d (.bool false)] = _
  rw [List.take_of_length_le (by simp [rowB]), List.take_of_length_le (by simp [rowB])]; rfl
theorem d_ospan (o : Oper) (ho : smallO o) (H : List (List Blk)) : CallEq X H 49 [pOper o] (pSpan (spanO o)) [] := by
  obtain ⟨h1, h2, _⟩ := ho
  refine callEq_of_bodyF X_ok true false (mo := []) (by kernel_rfl) Tryz.func49 rfl ?_
  conv => whnf
  repeat' (first
    | (refine ⟨one_ok, ?_⟩; (conv => whnf); refine ⟨by show (List.map _ _).length * 1 ≤ 140737488355328; rw [takeB]; omega, ?_⟩; conv => whnf)
    | fail)
  refine ⟨[], rfl, ?_, True.intro⟩
  (repeat' (first | exact True.intro | exact rfl | refine And.intro ?_ ?_))
def gLocks (o : Oper) (w : Int) : List Lock :=
  if errI (rOCheck o) != 0 then []
  else if o.kind == 1 then [wholeL o w 1, ⟨w, false, pointS o.t o.key, 3⟩]
  else if o.kind == 2 || o.kind == 3 || o.kind == 4 then [wholeL o w 2, ⟨w, false, pointS o.t o.key, 5⟩]
  else if o.kind == 5 then (if rSEmpty (spanO o) then [wholeL o w 1] else [wholeL o w 1, ⟨w, false, spanO o, 3⟩])
  else if o.kind == 8 then [wholeL o w o.n] else []
theorem d_olocks (o : Oper) (w : Int) (ho : smallO o) (H : List (List Blk)) : CallEq X H 22 [pOper o, .d (.int .i64 w)] (.d (encLocks (gLocks o w))) [] := by
  have hp := fun H => d_point o.t o.key (by have := ho.1; omega) H
  have hc := fun H => c40 o H
  have hs := fun H => d_ospan o ho H
  have he := fun H => c93 (spanO o) H
  unfold gLocks
  generalize rOCheck o = b at hc ⊢
  refine callEq_of_body X_ok rfl Tryz.func22 rfl ?_
  conv => whnf
  repeat' (first
    | (refine And.intro (fun h_ => ?_) (fun h_ => ?_) <;> (conv => whnf))
    | (refine ⟨_, _, hp _, True.intro, ?_⟩; conv => whnf)
    | (refine ⟨_, _, hc _, True.intro, ?_⟩; conv => whnf)
    | (refine ⟨_, _, hs _, True.intro, ?_⟩; conv => whnf)
    | (refine ⟨_, _, he _, True.intro, ?_⟩; conv => whnf)
    | (refine ⟨[], rfl, ?_, True.intro⟩; simp_all only [refP, if_true, if_false, Bool.false_eq_true, Bool.true_or, Bool.or_true, Bool.or_false, Bool.false_or]; (repeat' (first | exact True.intro | exact rfl | refine And.intro ?_ ?_)); done)
    | fail)
end Go.Proofs.Ve

/- A lock is held; the document's Ask. -/
set_option maxRecDepth 100000
set_option maxHeartbeats 4000000
set_option linter.all false
namespace Go.Proofs.Ve
open Go
theorem holdL_small {l : List Lock} {x : Lock} (h : smallL l) (hx : smallX x) : smallL (holdL l x) := by
  intro y hy
  unfold holdL at hy
  split at hy
  · rcases List.mem_or_eq_of_mem_set hy with hy | rfl
    · exact h y hy
    · exact hx
  · simp only [List.mem_append, List.mem_singleton] at hy
    rcases hy with hy | rfl
    · exact h y hy
    · exact hx
theorem holdL_le (l : List Lock) (x : Lock) : (holdL l x).length ≤ l.length + 1 := by
  unfold holdL; split <;> simp
/-- .. of a copy that is one's own -/
theorem d_copyT (h q : List Lock) (n n' : Nat) (hn : n = h.length) (hn' : n' = q.length) (hs : h.length < 100000 ∧ q.length < 100000 ∧ smallL h ∧ smallL q) (H : List (List Blk)) :
    CallEq X H 21 [.agg [.d (.sl (List.take n (h.map cLock))), .d (.sl (List.take n' (q.map cLock)))]] (pLocks ⟨h, q⟩) [] := by
  subst hn; subst hn'
  rw [List.take_of_length_le (by simp), List.take_of_length_le (by simp)]
  exact d_copy ⟨h, q⟩ hs H
theorem d_hold (l : Locks) (x : Lock) (hs : smallLs l) (hl : l.held.length < 99999) (hx : smallX x) (H : List (List Blk)) : CallEq X H 58 [pLocks l, pLock x] (pLocks ⟨holdL l.held x, l.queue⟩) [] := by
  obtain ⟨h1, h2, h3, h4⟩ := hs
  have hlen := holdL_le l.held x
  have hsm := holdL_small h3 hx
  refine callEq_of_bodyF X_ok false true (mo := []) (by kernel_rfl) Tryz.func58 rfl ?_
  conv => whnf
  refine ⟨_, _, (d_copyR l ⟨h1, h2, h3, h4⟩ _).md _ _, True.intro, ?_⟩
  conv => whnf
  refine ⟨_, _, (d_whole l x (by omega) _).md _ _, True.intro, ?_⟩
  conv => whnf
  refine And.intro (fun q1 => ?_) (fun q1 => ?_) <;> (conv => whnf)
  · have q1 : lWhole l.held x ≥ 0 := by simpa using q1
    have hh : holdL l.held x = l.held.set (lWhole l.held x).toNat x := by unfold holdL; rw [if_pos q1]
    obtain ⟨y, hy⟩ := whole_at q1
    have hlt := (List.getElem?_eq_some_iff.1 hy).1
    refine ⟨q1, by omega, ?_⟩
    conv => whnf
    refine ⟨cLock y, by show (l.held.map cLock)[_]? = _; rw [List.getElem?_map, hy]; rfl, ?_⟩
    conv => whnf
    have hc : ∀ H, CallEq X H 21 [.agg [.d (.sl (List.take l.held.length ((rLocks l.held).xs.set (lWhole l.held x).toNat (cLock x)))), .d (.sl (List.take l.queue.length (rLocks l.queue).xs))]] (pLocks ⟨holdL l.held x, l.queue⟩) [] := fun H => by
      have := d_copyT (holdL l.held x) l.queue l.held.length l.queue.length (by rw [hh]; simp) rfl ⟨by omega, h2, hsm, h4⟩ H
      rw [show (holdL l.held x).map cLock = (l.held.map cLock).set (lWhole l.held x).toNat (cLock x) by rw [hh, List.map_set]] at this
      exact this
    refine ⟨_, _, (hc _).md _ _, True.intro, ?_⟩
    conv => whnf
    refine ⟨[], rfl, ?_, True.intro⟩
    (repeat' (first | exact True.intro | exact rfl | refine And.intro ?_ ?_))
  · have q1 : ¬ lWhole l.held x ≥ 0 := by simpa using q1
    have hh : holdL l.held x = l.held ++ [x] := by unfold holdL; rw [if_neg q1]
    refine ⟨fun y hy => by simp at hy; subst hy; rfl, ?_⟩
    conv => whnf
    refine ⟨(List.length_map _).symm, by (first | omega | (dsimp only; omega) | (simp; done) | (simp; omega)), ?_⟩
    conv => whnf
    have hc : ∀ H, CallEq X H 21 [.agg [.d (.sl (List.take (l.held.length + 1) ((rLocks l.held).xs ++ [cLock x]))), .d (.sl (List.take l.queue.length (rLocks l.queue).xs))]] (pLocks ⟨holdL l.held x, l.queue⟩) [] := fun H => by
      have := d_copyT (holdL l.held x) l.queue (l.held.length + 1) l.queue.length (by rw [hh]; simp) rfl ⟨by omega, h2, hsm, h4⟩ H
      rw [show (holdL l.held x).map cLock = l.held.map cLock ++ [cLock x] by rw [hh, List.map_append]; rfl] at this
      exact this
    refine ⟨_, _, (hc _).md _ _, True.intro, ?_⟩
    conv => whnf
    refine ⟨[], rfl, ?_, True.intro⟩
    (repeat' (first | exact True.intro | exact rfl | refine And.intro ?_ ?_))
/-! ### Ask -/
theorem rjoin_small {l : Locks} {x : Lock} (h : smallX x) : smallX (rJoined l x) := by
  unfold rJoined; split <;> exact h
theorem rjoin_owner (l : Locks) (x : Lock) : (rJoined l x).owner = x.owner := by unfold rJoined; split <;> rfl
def ansA (r : Locks × Int) : PV := .tuple [pLocks r.1, .d (.int .i64 r.2)]
theorem any_at {α : Type} {p : α → Bool} {l : List α} {k : Nat} {x : α} (h : l[k]? = some x) : (l.drop k).any p = (p x || (l.drop (k + 1)).any p) := by
  have hk := (List.getElem?_eq_some_iff.1 h).1
  rw [List.drop_eq_getElem_cons hk, (List.getElem?_eq_some_iff.1 h).2, List.any_cons]
theorem ask1 {l : Locks} {x : Lock} (h : (!rCheck l || (!rLMay x || decide (place l.queue x.owner ≥ 0))) = true) : rAsk l x = (l, 1) := by unfold rAsk; rw [if_pos h]
theorem ask2 {l : Locks} {x : Lock} (h : (!rCheck l || (!rLMay x || decide (place l.queue x.owner ≥ 0))) = false) (h2 : (l.held.any fun h => rServes h x) = true) : rAsk l x = (l, 0) := by
  unfold rAsk; simp only [h, h2, Bool.false_eq_true, if_false, if_true]
theorem ask3 {l : Locks} {x : Lock} (h : (!rCheck l || (!rLMay x || decide (place l.queue x.owner ≥ 0))) = false) (h2 : (l.held.any fun h => rServes h x) = false) (h3 : decide ((l.held.length : Int) + l.queue.length ≥ 40) = true) : rAsk l x = (l, 111) := by
  unfold rAsk; simp only [h, h2, h3, Bool.false_eq_true, if_false, if_true]
theorem ask4 {l : Locks} {x : Lock} (h : (!rCheck l || (!rLMay x || decide (place l.queue x.owner ≥ 0))) = false) (h2 : (l.held.any fun h => rServes h x) = false) (h3 : decide ((l.held.length : Int) + l.queue.length ≥ 40) = false)
    (h4 : decide (((rAhead ⟨l.held, l.queue ++ [rJoined l x]⟩ (rJoined l x) l.queue.length).length : Int) > 0) = true) : rAsk l x = (⟨l.held, l.queue ++ [rJoined l x]⟩, 110) := by
  unfold rAsk; simp only [h, h2, h3, h4, Bool.false_eq_true, if_false, if_true]
theorem ask5 {l : Locks} {x : Lock} (h : (!rCheck l || (!rLMay x || decide (place l.queue x.owner ≥ 0))) = false) (h2 : (l.held.any fun h => rServes h x) = false) (h3 : decide ((l.held.length : Int) + l.queue.length ≥ 40) = false)
    (h4 : decide (((rAhead ⟨l.held, l.queue ++ [rJoined l x]⟩ (rJoined l x) l.queue.length).length : Int) > 0) = false) : rAsk l x = (⟨holdL l.held (rJoined l x), l.queue⟩, 0) := by
  unfold rAsk; simp only [h, h2, h3, h4, Bool.false_eq_true, if_false]
/-- who stands ahead of one that is put behind the Queue -/
theorem d_aheadT (l : Locks) (x : Lock) (n : Nat) (hn : n = l.queue.length + 1) (hs : smallLs l) (hq : l.queue.length < 99999) (o1 : ∀ y ∈ l.held, ownOk y) (o2 : ∀ y ∈ l.queue, ownOk y) (ox : ownOk x) (H : List (List Blk)) :
    CallEq X H 57 [.agg [.d (.sl (List.take l.held.length (rLocks l.held).xs)), .d (.sl (List.take n ((rLocks l.queue).xs ++ [cLock x])))], .d (.int .i64 (l.queue.map cLock).length)]
      (pBits (anyB x (l.held ++ (l.queue ++ [x]).take l.queue.length) 0) (anyB x (l.held ++ (l.queue ++ [x]).take l.queue.length) 1) (anyB x (l.held ++ (l.queue ++ [x]).take l.queue.length) 2) (anyB x (l.held ++ (l.queue ++ [x]).take l.queue.length) 3)) [] := by
  have h := c48 ⟨l.held, l.queue ++ [x]⟩ x l.queue.length (by simp) hs.1 (by simp; omega) o1 (fun y hy => by
    simp only [List.mem_append, List.mem_singleton] at hy
    rcases hy with hy | rfl
    · exact o2 y hy
    · exact ox) H
  subst hn
  rw [show List.take l.held.length (rLocks l.held).xs = l.held.map cLock from List.take_of_length_le (by simp [rLocks])]
  rw [show List.take (l.queue.length + 1) ((rLocks l.queue).xs ++ [cLock x]) = (l.queue ++ [x]).map cLock by rw [List.take_of_length_le (by simp [rLocks])]; simp [rLocks]]
  rw [List.length_map]
  exact h
theorem d_ask (l : Locks) (x : Lock) (hs : smallLs l) (hl : l.held.length < 99999) (hq : l.queue.length < 99999) (hx : smallX x) (H : List (List Blk)) : CallEq X H 23 [pLocks l, pLock x] (ansA (rAsk l x)) [] := by
  unfold ansA
  refine callEq_of_bodyF X_ok false true (mo := []) (by kernel_rfl) Tryz.func23 rfl ?_
  conv => whnf
  refine ⟨_, _, (c20 l hs.1 hs.2.1 _).md _ _, True.intro, ?_⟩
  conv => whnf
  refine ⟨_, _, (c54 x _).md _ _, True.intro, ?_⟩
  conv => whnf
  have bad : (!rCheck l || (!rLMay x || decide (place l.queue x.owner ≥ 0))) = true → rAsk l x = (l, 1) := ask1
  refine And.intro (fun q1 => ?_) (fun q1 => ?_) <;> (conv => whnf)
  rotate_left
  · rw [bad (by simp_all)]
    refine ⟨_, _, (d_copy l hs _).md _ _, True.intro, ?_⟩
    conv => whnf
    refine ⟨[], rfl, ?_, True.intro⟩
    (repeat' (first | exact True.intro | exact rfl | refine And.intro ?_ ?_))
  refine And.intro (fun q2 => ?_) (fun q2 => ?_) <;> (conv => whnf)
  rotate_left
  · rw [bad (by simp_all)]
    refine ⟨_, _, (d_copy l hs _).md _ _, True.intro, ?_⟩
    conv => whnf
    refine ⟨[], rfl, ?_, True.intro⟩
    (repeat' (first | exact True.intro | exact rfl | refine And.intro ?_ ?_))
  refine ⟨_, _, (c46 l x.owner (by have := hs.2.1; omega) _).md _ _, True.intro, ?_⟩
  conv => whnf
  refine And.intro (fun q3 => ?_) (fun q3 => ?_) <;> (conv => whnf)
  · rw [bad (by simp_all)]
    refine ⟨_, _, (d_copy l hs _).md _ _, True.intro, ?_⟩
    conv => whnf
    refine ⟨[], rfl, ?_, True.intro⟩
    (repeat' (first | exact True.intro | exact rfl | refine And.intro ?_ ?_))
  have hck : rCheck l = true := by simpa using q1
  have hmy : rLMay x = true := by simpa using q2
  have qa : (!rCheck l || (!rLMay x || decide (place l.queue x.owner ≥ 0))) = false := by rw [hck, hmy, q3]; rfl
  obtain ⟨o1, o2⟩ := rCheck_own hck
  have ox0 : ownOk x := may_own hmy
  refine loopV_of (fun k : Nat => ⟨[.any, .any, .ptr 0 0 0, .ptr 0 1 0, .ptr 0 2 0, .any, .any, .any, .d (.int .i64 k), .any, .any, .any, .any, .any, .any, .any, .any, .any, .any, .any, .any, .any, .any, .any, .any, .any, .any, .any, .any, .any, .any, .any, .any, .any, .any, .any, .any, .any, .any, .any, .any, .any, .any, .any, .any, .any, .any, .any, .any, .any, .any, .any, .any, .any, .any, .any, .any, .any, .any, .any, .any, .any, .any, .any, .any, .any, .any, .any, .any, .any, .any, .any, .any, .any, .any, .any, .any, .any, .any, .any, .any, .any, .any, .any, .any, .any, .any, .any, .any, .any, .any, .any, .any, .any], [bLocks l, bLock x, .box [.nils, .nils]]⟩)
    (fun k => k ≤ l.held.length ∧ (l.held.any fun h => rServes h x) = ((l.held.drop k).any fun h => rServes h x)) (fun k => l.held.length - k) 0 [0, 1, 2] ⟨Nat.zero_le _, rfl⟩ ?_ ?_
  · refine And.intro rfl (And.intro ?_ ?_)
    all_goals (repeat' (first | exact True.intro | exact rfl | refine And.intro ?_ ?_))
  · rintro k ⟨hk, hidx⟩
    conv => whnf
    refine And.intro (fun h_ => ?_) (fun h_ => ?_)
    · conv => whnf
      have hk' : k < l.held.length := by simpa using h_
      obtain ⟨y, hy⟩ : ∃ y, l.held[k]? = some y := ⟨_, List.getElem?_eq_getElem hk'⟩
      have hst := any_at (p := fun h => rServes h x) hy
      refine ⟨by omega, cLock y, by simp [hy], rfl, ?_⟩
      conv => whnf
      refine ⟨_, _, (d_serves y x _).md _ _, True.intro, ?_⟩
      conv => whnf
      refine And.intro (fun q4 => ?_) (fun q4 => ?_) <;> (conv => whnf)
      · rw [ask2 qa (by rw [hidx, hst, q4]; rfl)]
        refine ⟨_, _, (d_copy l hs _).md _ _, True.intro, ?_⟩
        conv => whnf
        refine ⟨[], rfl, ?_, True.intro⟩
        (repeat' (first | exact True.intro | exact rfl | refine And.intro ?_ ?_))
      · intro z hz
        conv => whnf
        rw [wrap_small (by omega) (by have := hs.1; omega)] at hz
        subst hz
        refine ⟨k + 1, [0, 1, 2], ⟨by omega, by rw [hidx, hst, q4]; rfl⟩, by omega, And.intro rfl (And.intro ?_ ?_)⟩
        all_goals (repeat' (first | exact True.intro | exact rfl | refine And.intro ?_ ?_))
    · conv => whnf
      have hk' : k = l.held.length := by simp at h_; omega
      have qb : (l.held.any fun h => rServes h x) = false := by rw [hidx, hk', List.drop_length]; rfl
      clear hidx
      have b1 := hs.1
      have b2 := hs.2.1
      refine ⟨_, _, (d_whole l x (by omega) _).md _ _, True.intro, ?_⟩
      conv => whnf
      refine And.intro (fun q5 => ?_) (fun q5 => ?_) <;> (conv => whnf)
      · have q5 : lWhole l.held x ≥ 0 := by simpa using q5
        obtain ⟨y, hy⟩ := whole_at q5
        refine ⟨by omega, cLock y, by show (l.held.map cLock)[_]? = _; rw [List.getElem?_map, hy]; rfl, rfl, ?_⟩
        conv => whnf
        refine ⟨_, _, (d_join x.mode y.mode _).md _ _, True.intro, ?_⟩
        conv => whnf
        have hJ : rJoined l x = { x with mode := rJoin x.mode y.mode } := by
          unfold rJoined; rw [if_pos q5, show atMode l.held (lWhole l.held x).toNat = y.mode by unfold atMode; rw [hy]]
        have ox : ownOk { x with mode := rJoin x.mode y.mode } := ox0
        have hx : smallX { x with mode := rJoin x.mode y.mode } := hx
        intro z hz
        conv => whnf
        rw [wrap_small (by omega) (by simp only [List.length_map]; omega)] at hz
        subst hz
        refine And.intro (fun q6 => ?_) (fun q6 => ?_) <;> (conv => whnf)
        · rw [ask3 qa qb (by simpa using q6)]
          refine ⟨_, _, (d_copy l hs _).md _ _, True.intro, ?_⟩
          conv => whnf
          refine ⟨[], rfl, ?_, True.intro⟩
          (repeat' (first | exact True.intro | exact rfl | refine And.intro ?_ ?_))
        · have q6 : decide ((l.held.length : Int) + l.queue.length ≥ 40) = false := by simpa using q6
          refine ⟨_, _, (d_copyR l hs _).md _ _, True.intro, ?_⟩
          conv => whnf
          refine ⟨fun y hy => by simp at hy; subst hy; rfl, ?_⟩
          conv => whnf
          refine ⟨(List.length_map _).symm, by (first | omega | (dsimp only; omega) | (simp; done) | (simp; omega)), ?_⟩
          conv => whnf
          refine ⟨_, _, (d_aheadT l { x with mode := rJoin x.mode y.mode } _ rfl hs hq o1 o2 ox _).md _ _, True.intro, ?_⟩
          conv => whnf
          refine ⟨_, _, (c47 _ _ _ _ _).md _ _, True.intro, ?_⟩
          conv => whnf
          refine And.intro (fun q7 => ?_) (fun q7 => ?_) <;> (conv => whnf)
          · have e := ask4 qa qb q6 (by rw [hJ]; simp only [List.length_map] at q7; exact q7)
            rw [hJ] at e
            rw [e]
            have hc : ∀ H, CallEq X H 21 [.agg [.d (.sl (List.take l.held.length (rLocks l.held).xs)), .d (.sl (List.take (l.queue.length + 1) ((rLocks l.queue).xs ++ [cLock { x with mode := rJoin x.mode y.mode }])))]] (pLocks ⟨l.held, l.queue ++ [{ x with mode := rJoin x.mode y.mode }]⟩) [] := fun H => by
              have := d_copyT l.held (l.queue ++ [{ x with mode := rJoin x.mode y.mode }]) l.held.length (l.queue.length + 1) rfl (by simp) ⟨hs.1, by simp; omega, hs.2.2.1, fun y hy => by
                simp only [List.mem_append, List.mem_singleton] at hy
                rcases hy with hy | rfl
                · exact hs.2.2.2 y hy
                · exact hx⟩ H
              rw [List.map_append] at this
              exact this
            refine ⟨_, _, (hc _).md _ _, True.intro, ?_⟩
            conv => whnf
            refine ⟨[], rfl, ?_, True.intro⟩
            (repeat' (first | exact True.intro | exact rfl | refine And.intro ?_ ?_))
          · have e := ask5 qa qb q6 (by rw [hJ]; simp only [List.length_map] at q7; exact q7)
            rw [hJ] at e
            rw [e]
            refine ⟨_, _, (d_hold l { x with mode := rJoin x.mode y.mode } hs hl hx _).md _ _, True.intro, ?_⟩
            conv => whnf
            refine ⟨[], rfl, ?_, True.intro⟩
            (repeat' (first | exact True.intro | exact rfl | refine And.intro ?_ ?_))
      · have q5 : ¬ lWhole l.held x ≥ 0 := by simpa using q5
        have hJ : rJoined l x = x := by unfold rJoined; rw [if_neg q5]
        have ox := ox0
        intro z hz
        conv => whnf
        rw [wrap_small (by omega) (by simp only [List.length_map]; omega)] at hz
        subst hz
        refine And.intro (fun q6 => ?_) (fun q6 => ?_) <;> (conv => whnf)
        · rw [ask3 qa qb (by simpa using q6)]
          refine ⟨_, _, (d_copy l hs _).md _ _, True.intro, ?_⟩
          conv => whnf
          refine ⟨[], rfl, ?_, True.intro⟩
          (repeat' (first | exact True.intro | exact rfl | refine And.intro ?_ ?_))
        · have q6 : decide ((l.held.length : Int) + l.queue.length ≥ 40) = false := by simpa using q6
          refine ⟨_, _, (d_copyR l hs _).md _ _, True.intro, ?_⟩
          conv => whnf
          refine ⟨fun y hy => by simp at hy; subst hy; rfl, ?_⟩
          conv => whnf
          refine ⟨(List.length_map _).symm, by (first | omega | (dsimp only; omega) | (simp; done) | (simp; omega)), ?_⟩
          conv => whnf
          refine ⟨_, _, (d_aheadT l x _ rfl hs hq o1 o2 ox _).md _ _, True.intro, ?_⟩
          conv => whnf
          refine ⟨_, _, (c47 _ _ _ _ _).md _ _, True.intro, ?_⟩
          conv => whnf
          refine And.intro (fun q7 => ?_) (fun q7 => ?_) <;> (conv => whnf)
          · have e := ask4 qa qb q6 (by rw [hJ]; simp only [List.length_map] at q7; exact q7)
            rw [hJ] at e
            rw [e]
            have hc : ∀ H, CallEq X H 21 [.agg [.d (.sl (List.take l.held.length (rLocks l.held).xs)), .d (.sl (List.take (l.queue.length + 1) ((rLocks l.queue).xs ++ [cLock x])))]] (pLocks ⟨l.held, l.queue ++ [x]⟩) [] := fun H => by
              have := d_copyT l.held (l.queue ++ [x]) l.held.length (l.queue.length + 1) rfl (by simp) ⟨hs.1, by simp; omega, hs.2.2.1, fun y hy => by
                simp only [List.mem_append, List.mem_singleton] at hy
                rcases hy with hy | rfl
                · exact hs.2.2.2 y hy
                · exact hx⟩ H
              rw [List.map_append] at this
              exact this
            refine ⟨_, _, (hc _).md _ _, True.intro, ?_⟩
            conv => whnf
            refine ⟨[], rfl, ?_, True.intro⟩
            (repeat' (first | exact True.intro | exact rfl | refine And.intro ?_ ?_))
          · have e := ask5 qa qb q6 (by rw [hJ]; simp only [List.length_map] at q7; exact q7)
            rw [hJ] at e
            rw [e]
            refine ⟨_, _, (d_hold l x hs hl hx _).md _ _, True.intro, ?_⟩
            conv => whnf
            refine ⟨[], rfl, ?_, True.intro⟩
            (repeat' (first | exact True.intro | exact rfl | refine And.intro ?_ ?_))
end Go.Proofs.Ve

/- The document's Drop. -/
set_option maxRecDepth 100000
set_option maxHeartbeats 8000000
set_option linter.all false
namespace Go.Proofs.Ve
open Go
noncomputable def mo29 : List (Nat × Tr) := [(23, (.alt 0 (.alt 3 (.alt 5 (.alt 8 (.alt 10 (.alt 11 (.alt 1 (.alt 2 (.alt 4 (.alt 6 (.alt 7 (.alt 9 (.alt 12 (.alt 13 (.alt 14 (.alt 15 .fin .none) .none) .none) .none) .none) (.alt 9 (.alt 12 (.alt 7 (.alt 13 (.alt 14 (.alt 15 .fin .none) .none) .none) .none) .none) .none)) .none) (.alt 9 (.alt 12 (.alt 4 (.alt 6 (.alt 7 (.alt 13 (.alt 14 (.alt 15 .fin .none) .none) .none) .none) .none) .none) .none) .none)) (.alt 4 (.alt 6 (.alt 2 (.alt 7 (.alt 9 (.alt 12 (.alt 13 (.alt 14 (.alt 15 .fin .none) .none) .none) .none) .none) (.alt 9 (.alt 12 (.alt 7 (.alt 13 (.alt 14 (.alt 15 .fin .none) .none) .none) .none) .none) .none)) (.alt 9 (.alt 12 (.alt 2 (.alt 7 (.alt 13 (.alt 14 (.alt 15 .fin .none) .none) .none) .none) .none) .none) .none)) .none) (.alt 9 (.alt 12 (.alt 2 (.alt 4 (.alt 6 (.alt 7 (.alt 13 (.alt 14 (.alt 15 .fin .none) .none) .none) .none) .none) .none) (.alt 4 (.alt 6 (.alt 2 (.alt 7 (.alt 13 (.alt 14 (.alt 15 .fin .none) .none) .none) .none) .none) .none) .none)) .none) .none))) (.alt 2 (.alt 1 (.alt 4 (.alt 6 (.alt 7 (.alt 9 (.alt 12 (.alt 13 (.alt 14 (.alt 15 .fin .none) .none) .none) .none) .none) (.alt 9 (.alt 12 (.alt 7 (.alt 13 (.alt 14 (.alt 15 .fin .none) .none) .none) .none) .none) .none)) .none) (.alt 9 (.alt 12 (.alt 4 (.alt 6 (.alt 7 (.alt 13 (.alt 14 (.alt 15 .fin .none) .none) .none) .none) .none) .none) .none) .none)) (.alt 4 (.alt 6 (.alt 1 (.alt 7 (.alt 9 (.alt 12 (.alt 13 (.alt 14 (.alt 15 .fin .none) .none) .none) .none) .none) (.alt 9 (.alt 12 (.alt 7 (.alt 13 (.alt 14 (.alt 15 .fin .none) .none) .none) .none) .none) .none)) (.alt 7 (.alt 1 (.alt 9 (.alt 12 (.alt 13 (.alt 14 (.alt 15 .fin .none) .none) .none) .none) .none) (.alt 9 (.alt 12 (.alt 1 (.alt 13 (.alt 14 (.alt 15 .fin .none) .none) .none) (.alt 13 (.alt 1 (.alt 14 (.alt 15 .fin .none) .none) .none) .none)) .none) .none)) (.alt 9 (.alt 12 (.alt 1 (.alt 7 (.alt 13 (.alt 14 (.alt 15 .fin .none) .none) .none) .none) (.alt 7 (.alt 1 (.alt 13 (.alt 14 (.alt 15 .fin .none) .none) .none) (.alt 13 (.alt 1 (.alt 14 (.alt 15 .fin .none) .none) .none) .none)) .none)) .none) .none))) .none) (.alt 9 (.alt 12 (.alt 1 (.alt 4 (.alt 6 (.alt 7 (.alt 13 (.alt 14 (.alt 15 .fin .none) .none) .none) .none) .none) .none) (.alt 4 (.alt 6 (.alt 1 (.alt 7 (.alt 13 (.alt 14 (.alt 15 .fin .none) .none) .none) .none) (.alt 7 (.alt 1 (.alt 13 (.alt 14 (.alt 15 .fin .none) .none) .none) (.alt 13 (.alt 1 (.alt 14 (.alt 15 .fin .none) .none) .none) .none)) .none)) .none) .none)) .none) .none))) (.alt 4 (.alt 6 (.alt 1 (.alt 2 (.alt 7 (.alt 9 (.alt 12 (.alt 13 (.alt 14 (.alt 15 .fin .none) .none) .none) .none) .none) (.alt 9 (.alt 12 (.alt 7 (.alt 13 (.alt 14 (.alt 15 .fin .none) .none) .none) .none) .none) .none)) (.alt 9 (.alt 12 (.alt 2 (.alt 7 (.alt 13 (.alt 14 (.alt 15 .fin .none) .none) .none) .none) .none) .none) .none)) (.alt 2 (.alt 1 (.alt 7 (.alt 9 (.alt 12 (.alt 13 (.alt 14 (.alt 15 .fin .none) .none) .none) .none) .none) (.alt 9 (.alt 12 (.alt 7 (.alt 13 (.alt 14 (.alt 15 .fin .none) .none) .none) .none) .none) .none)) (.alt 7 (.alt 1 (.alt 9 (.alt 12 (.alt 13 (.alt 14 (.alt 15 .fin .none) .none) .none) .none) .none) (.alt 9 (.alt 12 (.alt 1 (.alt 13 (.alt 14 (.alt 15 .fin .none) .none) .none) (.alt 13 (.alt 1 (.alt 14 (.alt 15 .fin .none) .none) .none) .none)) .none) .none)) (.alt 9 (.alt 12 (.alt 1 (.alt 7 (.alt 13 (.alt 14 (.alt 15 .fin .none) .none) .none) .none) (.alt 7 (.alt 1 (.alt 13 (.alt 14 (.alt 15 .fin .none) .none) .none) (.alt 13 (.alt 1 (.alt 14 (.alt 15 .fin .none) .none) .none) .none)) .none)) .none) .none))) (.alt 9 (.alt 12 (.alt 1 (.alt 2 (.alt 7 (.alt 13 (.alt 14 (.alt 15 .fin .none) .none) .none) .none) .none) (.alt 2 (.alt 1 (.alt 7 (.alt 13 (.alt 14 (.alt 15 .fin .none) .none) .none) .none) (.alt 7 (.alt 1 (.alt 13 (.alt 14 (.alt 15 .fin .none) .none) .none) (.alt 13 (.alt 1 (.alt 14 (.alt 15 .fin .none) .none) .none) .none)) .none)) .none)) .none) .none))) .none) (.alt 9 (.alt 12 (.alt 1 (.alt 2 (.alt 4 (.alt 6 (.alt 7 (.alt 13 (.alt 14 (.alt 15 .fin .none) .none) .none) .none) .none) .none) (.alt 4 (.alt 6 (.alt 2 (.alt 7 (.alt 13 (.alt 14 (.alt 15 .fin .none) .none) .none) .none) .none) .none) .none)) (.alt 2 (.alt 1 (.alt 4 (.alt 6 (.alt 7 (.alt 13 (.alt 14 (.alt 15 .fin .none) .none) .none) .none) .none) .none) (.alt 4 (.alt 6 (.alt 1 (.alt 7 (.alt 13 (.alt 14 (.alt 15 .fin .none) .none) .none) .none) (.alt 7 (.alt 1 (.alt 13 (.alt 14 (.alt 15 .fin .none) .none) .none) (.alt 13 (.alt 1 (.alt 14 (.alt 15 .fin .none) .none) .none) .none)) .none)) .none) .none)) (.alt 4 (.alt 6 (.alt 1 (.alt 2 (.alt 7 (.alt 13 (.alt 14 (.alt 15 .fin .none) .none) .none) .none) .none) (.alt 2 (.alt 1 (.alt 7 (.alt 13 (.alt 14 (.alt 15 .fin .none) .none) .none) .none) (.alt 7 (.alt 1 (.alt 13 (.alt 14 (.alt 15 .fin .none) .none) .none) (.alt 13 (.alt 1 (.alt 14 (.alt 15 .fin .none) .none) .none) .none)) .none)) .none)) .none) .none))) .none) .none)))) .none) .none) .none) .none) .none) .none)), (24, (.alt 0 (.alt 1 (.alt 2 (.alt 3 (.alt 4 (.alt 5 .fin .none) .none) .none) .none) (.alt 2 (.alt 1 (.alt 3 (.alt 4 (.alt 5 .fin .none) .none) .none) .none) .none)) (.alt 2 (.alt 0 (.alt 1 (.alt 3 (.alt 4 (.alt 5 .fin .none) .none) .none) .none) .none) .none)))]
theorem takeL (l : List Lock) : List.take l.length (l.map cLock) = l.map cLock := List.take_of_length_le (by simp)
theorem rid_snoc {o : Int} {l : List Lock} {k : Nat} {x : Lock} (h : l[k]? = some x) : rid o (l.take (k + 1)) = if x.owner != o then rid o (l.take k) ++ [x] else rid o (l.take k) := by
  unfold rid
  rw [take_snoc' h, List.filter_append, List.filter_cons, List.filter_nil]
  show _ = if (!(x.owner == o)) = true then _ else _
  split <;> simp
theorem rid_le (o : Int) (l : List Lock) : (rid o l).length ≤ l.length := List.length_filter_le _ _
theorem rid_small {o : Int} {l : List Lock} (h : smallL l) : smallL (rid o l) := fun x hx => h x (rid_mem hx).1
theorem hasI_snoc (g : List Int) (o i : Int) : hasI (g ++ [o]) i = (hasI g i || o == i) := by unfold hasI; simp
theorem dropA {h pre rest : List Lock} {x : Lock} {g : List Int} (e : decide (((rAhead ⟨h, pre ++ x :: rest⟩ x pre.length).length : Int) > 0) = true) : rDropF h pre (x :: rest) g = rDropF h (pre ++ [x]) rest g := by rw [rDropF, if_pos e]
theorem dropB {h pre rest : List Lock} {x : Lock} {g : List Int} (e : decide (((rAhead ⟨h, pre ++ x :: rest⟩ x pre.length).length : Int) > 0) = false) : rDropF h pre (x :: rest) g = rDropF (holdL h x) pre rest (g ++ [x.owner]) := by
  rw [rDropF]; simp only [e, Bool.false_eq_true, if_false]
structure DI where
  h : List Lock
  pre : List Lock
  rest : List Lock
  g : List Int
  fl : Nat
structure DOk (n : Nat) (R : Locks × List Int) (i : DI) : Prop where
  eq : R = rDropF i.h i.pre i.rest i.g
  len : i.h.length + i.pre.length + i.rest.length ≤ n
  s1 : smallL i.h
  s2 : smallL (i.pre ++ i.rest)
  o1 : ∀ y ∈ i.h, ownOk y
  o2 : ∀ y ∈ i.pre ++ i.rest, ownOk y
noncomputable def dS (i : DI) : LS :=
  match i.fl with
  | 0 => ⟨[.any, .any, .any, .any, .ptr 0 0 0, .any, .any, .ptr 0 1 0, .any, .any, .ptr 0 2 0, .d (.int .i64 i.pre.length), .any, .any, .any, .any, .any, .any, .any, .any, .any, .any, .any, .any, .any, .any, .any, .any, .any, .any, .any, .any, .any, .any, .any, .any, .any, .any, .any, .any, .any, .any, .any, .any, .any, .any, .any, .any, .any, .any, .any, .any, .any, .any, .any, .any, .any, .any, .any, .any, .any, .any, .any, .any, .any, .any, .any, .any, .any, .any, .any, .any, .any, .any, .any, .any, .any, .any, .any, .any, .any, .any, .any, .any, .any, .any, .any, .any, .any, .any, .any, .any, .any, .any, .any, .any, .any, .any, .any, .any, .any, .any, .any, .any, .any, .any, .any, .any, .any, .any, .any, .any, .any, .any, .any, .any, .any, .any, .any, .any, .any, .any, .any, .any, .any], [.box [.nils, .nils], .box [.row 0 3 i.h.length, .row 0 4 (i.pre ++ i.rest).length], .box [.d (.bool (hasI i.g 0)), .d (.bool (hasI i.g 1)), .d (.bool (hasI i.g 2)), .d (.bool (hasI i.g 3))], .row 53 7 (i.h.map cLock), .row 53 7 ((i.pre ++ i.rest).map cLock)]⟩
  | 1 => ⟨[.any, .any, .any, .any, .ptr 0 0 0, .any, .any, .ptr 0 1 0, .any, .any, .ptr 0 2 0, .d (.int .i64 i.pre.length), .any, .any, .any, .any, .any, .any, .any, .any, .any, .any, .any, .any, .any, .any, .any, .any, .any, .any, .any, .any, .any, .any, .any, .any, .any, .any, .any, .any, .any, .any, .any, .any, .any, .any, .any, .any, .any, .any, .any, .any, .any, .any, .any, .any, .any, .any, .any, .any, .any, .any, .any, .any, .any, .any, .any, .any, .any, .any, .any, .any, .any, .any, .any, .any, .any, .any, .any, .any, .any, .any, .any, .any, .any, .any, .any, .any, .any, .any, .any, .any, .any, .any, .any, .any, .any, .any, .any, .any, .any, .any, .any, .any, .any, .any, .any, .any, .any, .any, .any, .any, .any, .any, .any, .any, .any, .any, .any, .any, .any, .any, .any, .any, .any], [.box [.nils, .nils], .box [.d (encLocks i.h), .d (encLocks (i.pre ++ i.rest))], .box [.d (.bool (hasI i.g 0)), .d (.bool (hasI i.g 1)), .d (.bool (hasI i.g 2)), .d (.bool (hasI i.g 3))]]⟩
  | _ => ⟨[.any, .any, .any, .any, .ptr 0 0 0, .any, .any, .ptr 0 1 0, .any, .any, .ptr 0 2 0, .d (.int .i64 i.pre.length), .any, .any, .any, .any, .any, .any, .any, .any, .any, .any, .any, .any, .any, .any, .any, .any, .any, .any, .any, .any, .any, .any, .any, .any, .any, .any, .any, .any, .any, .any, .any, .any, .any, .any, .any, .any, .any, .any, .any, .any, .any, .any, .any, .any, .any, .any, .any, .any, .any, .any, .any, .any, .any, .any, .any, .any, .any, .any, .any, .any, .any, .any, .any, .any, .any, .any, .any, .any, .any, .any, .any, .any, .any, .any, .any, .any, .any, .any, .any, .any, .any, .any, .any, .any, .any, .any, .any, .any, .any, .any, .any, .any, .any, .any, .any, .any, .any, .any, .any, .any, .any, .any, .any, .any, .any, .any, .any, .any, .any, .any, .any, .any, .any], [.box [.nils, .nils], .box [.d (encLocks i.h), .row 0 3 (i.pre ++ i.rest).length], .box [.d (.bool (hasI i.g 0)), .d (.bool (hasI i.g 1)), .d (.bool (hasI i.g 2)), .d (.bool (hasI i.g 3))], .row 53 7 ((i.pre ++ i.rest).map cLock)]⟩
def ansD (r : Locks × List Int) : PV := .tuple [pLocks r.1, .d (encI r.2)]
theorem drop1 {l : Locks} {o : Int} (h : (!rCheck l || (decide (o < 0) || decide (o > 3))) = true) : rDrop l o = (l, []) := by unfold rDrop; rw [if_pos h]
theorem drop2 {l : Locks} {o : Int} (h : (!rCheck l || (decide (o < 0) || decide (o > 3))) = false) : rDrop l o = ((rDropF (rid o l.held) [] (rid o l.queue) []).1, bits4 (rDropF (rid o l.held) [] (rid o l.queue) []).2) := by
  unfold rDrop; simp only [h, Bool.false_eq_true, if_false]
/-- .. of which the one that waits is one's own -/
theorem d_copyM (h q : List Lock) (n' : Nat) (hn' : n' = q.length) (hs : h.length < 100000 ∧ q.length < 100000 ∧ smallL h ∧ smallL q) (H : List (List Blk)) :
    CallEq X H 21 [.agg [.d (encLocks h), .d (.sl (List.take n' (q.map cLock)))]] (pLocks ⟨h, q⟩) [] := by
  subst hn'
  rw [List.take_of_length_le (by simp)]
  exact d_copy ⟨h, q⟩ hs H
theorem len7 {q : List Lock} : ∀ y ∈ q.map cLock, y.length = 7 := fun y hy => by simp only [List.mem_map] at hy; obtain ⟨_, _, rfl⟩ := hy; rfl
theorem getQ (pre rest : List Lock) (x : Lock) : ((pre ++ x :: rest).map cLock)[((pre.length : Nat) : Int).toNat]? = some (cLock x) := by simp
theorem cutQ (pre rest : List Lock) (x : Lock) : [] ++ List.take ((pre.length : Nat) : Int).toNat ((pre ++ x :: rest).map cLock) ++ List.drop (((pre.length : Nat) : Int) + 1).toNat ((pre ++ x :: rest).map cLock) = (pre ++ rest).map cLock := by
  rw [show (((pre.length : Nat) : Int) + 1).toNat = pre.length + 1 by omega, Int.toNat_natCast, List.map_append, List.map_cons, List.nil_append]
  have e : pre.length = (pre.map cLock).length := by simp
  rw [show List.take pre.length (pre.map cLock ++ cLock x :: rest.map cLock) = pre.map cLock by rw [e]; exact List.take_left]
  rw [show List.drop (pre.length + 1) (pre.map cLock ++ cLock x :: rest.map cLock) = rest.map cLock by rw [e, ← List.drop_drop, List.drop_left]; rfl]
  rw [List.map_append]
theorem holdL_own {l : List Lock} {x : Lock} (h : ∀ y ∈ l, ownOk y) (hx : ownOk x) : ∀ y ∈ holdL l x, ownOk y := by
  intro y hy
  unfold holdL at hy
  split at hy
  · rcases List.mem_or_eq_of_mem_set hy with hy | rfl
    · exact h y hy
    · exact hx
  · simp only [List.mem_append, List.mem_singleton] at hy
    rcases hy with hy | rfl
    · exact h y hy
    · exact hx
theorem byLeaf {G W : Prop} (k : G → W) (h : G) : W := k h
theorem d_drop (l : Locks) (o : Int) (hs : smallLs l) (hl : l.held.length < 40000) (hq : l.queue.length < 40000) (H : List (List Blk)) : CallEq X H 29 [pLocks l, .d (.int .i64 o)] (ansD (rDrop l o)) [] := by
  unfold ansD
  refine callEq_of_bodyF X_ok false true (mo := mo29) (by kernel_rfl) Tryz.func29 rfl ?_
  conv => whnf
  refine ⟨_, _, (c20 l hs.1 hs.2.1 _).md _ _, True.intro, ?_⟩
  conv => whnf
  refine And.intro (fun q1 => ?_) (fun q1 => ?_) <;> (conv => whnf)
  rotate_left
  · rw [drop1 (by simp_all)]
    refine ⟨_, _, (d_copy l hs _).md _ _, True.intro, ?_⟩
    conv => whnf
    refine ⟨[], rfl, ?_, True.intro⟩
    (repeat' (first | exact True.intro | exact rfl | refine And.intro ?_ ?_))
  refine And.intro (fun q2 => ?_) (fun q2 => ?_) <;> (conv => whnf)
  rotate_left
  · rw [drop1 (by simp_all)]
    refine ⟨_, _, (d_copy l hs _).md _ _, True.intro, ?_⟩
    conv => whnf
    refine ⟨[], rfl, ?_, True.intro⟩
    (repeat' (first | exact True.intro | exact rfl | refine And.intro ?_ ?_))
  refine And.intro (fun q3 => ?_) (fun q3 => ?_) <;> (conv => whnf)
  · rw [drop1 (by simp_all)]
    refine ⟨_, _, (d_copy l hs _).md _ _, True.intro, ?_⟩
    conv => whnf
    refine ⟨[], rfl, ?_, True.intro⟩
    (repeat' (first | exact True.intro | exact rfl | refine And.intro ?_ ?_))
  have hck : rCheck l = true := by simpa using q1
  have qa : (!rCheck l || (decide (o < 0) || decide (o > 3))) = false := by rw [hck, q2, q3]; rfl
  obtain ⟨o1, o2⟩ := rCheck_own hck
  rw [drop2 qa]
  have hI0 : DOk (l.held.length + l.queue.length) (rDropF (rid o l.held) [] (rid o l.queue) []) ⟨rid o l.held, [], rid o l.queue, [], 0⟩ :=
    ⟨rfl, by have := rid_le o l.held; have := rid_le o l.queue; show (rid o l.held).length + 0 + (rid o l.queue).length ≤ _; omega, rid_small hs.2.2.1, rid_small hs.2.2.2, fun y hy => o1 y (rid_mem hy).1, fun y hy => o2 y (rid_mem hy).1⟩
  generalize rDropF (rid o l.held) [] (rid o l.queue) [] = R at hI0 ⊢
  refine loopV_of (fun k : Nat => ⟨[.any, .d (.int .i64 o), .ptr 0 0 0, .any, .ptr 0 1 0, .any, .any, .ptr 0 2 0, .d (.int .i64 k), .any, .any, .any, .any, .any, .any, .any, .any, .any, .any, .any, .any, .any, .any, .any, .any, .any, .any, .any, .any, .any, .any, .any, .any, .any, .any, .any, .any, .any, .any, .any, .any, .any, .any, .any, .any, .any, .any, .any, .any, .any, .any, .any, .any, .any, .any, .any, .any, .any, .any, .any, .any, .any, .any, .any, .any, .any, .any, .any, .any, .any, .any, .any, .any, .any, .any, .any, .any, .any, .any, .any, .any, .any, .any, .any, .any, .any, .any, .any, .any, .any, .any, .any, .any, .any, .any, .any, .any, .any, .any, .any, .any, .any, .any, .any, .any, .any, .any, .any, .any, .any, .any, .any, .any, .any, .any, .any, .any, .any, .any, .any, .any, .any, .any, .any, .any], [bLocks l, .box [.nils, .nils], .box [.row 0 3 (rid o (l.held.take k)).length, .nils], .row 53 7 ((rid o (l.held.take k)).map cLock)]⟩)
    (fun k => k ≤ l.held.length) (fun k => l.held.length - k) 0 [0, 1, 2, 100] (Nat.zero_le _) ?_ ?_
  · refine And.intro rfl (And.intro ?_ ?_)
    all_goals (repeat' (first | exact True.intro | exact rfl | refine And.intro ?_ ?_))
  · intro k hk
    conv => whnf
    refine And.intro (fun h_ => ?_) (fun h_ => ?_)
    · conv => whnf
      have hk' : k < l.held.length := by simpa using h_
      obtain ⟨x, hx⟩ : ∃ x, l.held[k]? = some x := ⟨_, List.getElem?_eq_getElem hk'⟩
      have hn := rid_snoc (o := o) hx
      have hlen : (rid o (l.held.take k)).length ≤ 100000 := by have := rid_le o (l.held.take k); rw [List.length_take] at this; omega
      refine ⟨by omega, cLock x, by simp [hx], rfl, ?_⟩
      conv => whnf
      refine And.intro (fun q4 => ?_) (fun q4 => ?_) <;> (conv => whnf)
      · rw [q4, if_pos rfl] at hn
        refine ⟨by omega, cLock x, by simp [hx], rfl, ?_⟩
        conv => whnf
        refine ⟨fun y hy => by simp at hy; subst hy; rfl, ?_⟩
        conv => whnf
        refine ⟨by simp, by (first | (simp; omega) | (first | omega | (dsimp only; omega) | (simp; done) | (simp; omega))), ?_⟩
        conv => whnf
        intro z hz
        conv => whnf
        rw [wrap_small (by omega) (by omega)] at hz
        subst hz
        refine ⟨k + 1, [0, 1, 2, 4], by omega, by omega, And.intro rfl (And.intro ?_ ?_)⟩
        all_goals (try rw [hn])
        all_goals (repeat' (first | exact True.intro | exact rfl | refine And.intro ?_ ?_))
        · show PV.row 0 4 ((rid o (l.held.take k)).length + 1) = PV.row 0 4 (rid o (l.held.take k) ++ [_]).length
          rw [List.length_append]; rfl
        · rw [List.map_append]; rfl
      · rw [q4, if_neg (by simp)] at hn
        intro z hz
        conv => whnf
        rw [wrap_small (by omega) (by omega)] at hz
        subst hz
        refine ⟨k + 1, [0, 1, 2, 3], by omega, by omega, And.intro rfl (And.intro ?_ ?_)⟩
        all_goals (try rw [hn])
        all_goals (repeat' (first | exact True.intro | exact rfl | refine And.intro ?_ ?_))
    · conv => whnf
      have hk' : k = l.held.length := by simp at h_; omega
      subst hk'
      rw [List.take_length]
      refine loopV_of (fun k : Nat => ⟨[.any, .d (.int .i64 o), .ptr 0 0 0, .any, .ptr 0 1 0, .any, .any, .ptr 0 2 0, .any, .d (.int .i64 k), .any, .any, .any, .any, .any, .any, .any, .any, .any, .any, .any, .any, .any, .any, .any, .any, .any, .any, .any, .any, .any, .any, .any, .any, .any, .any, .any, .any, .any, .any, .any, .any, .any, .any, .any, .any, .any, .any, .any, .any, .any, .any, .any, .any, .any, .any, .any, .any, .any, .any, .any, .any, .any, .any, .any, .any, .any, .any, .any, .any, .any, .any, .any, .any, .any, .any, .any, .any, .any, .any, .any, .any, .any, .any, .any, .any, .any, .any, .any, .any, .any, .any, .any, .any, .any, .any, .any, .any, .any, .any, .any, .any, .any, .any, .any, .any, .any, .any, .any, .any, .any, .any, .any, .any, .any, .any, .any, .any, .any, .any, .any, .any, .any, .any, .any], [bLocks l, .box [.nils, .nils], .box [.row 0 3 (rid o l.held).length, .row 0 4 (rid o (l.queue.take k)).length], .row 53 7 ((rid o l.held).map cLock), .row 53 7 ((rid o (l.queue.take k)).map cLock)]⟩)
        (fun k => k ≤ l.queue.length) (fun k => l.queue.length - k) 0 [0, 1, 2, 3, 100] (Nat.zero_le _) ?_ ?_
      · refine And.intro rfl (And.intro ?_ ?_)
        all_goals (repeat' (first | exact True.intro | exact rfl | refine And.intro ?_ ?_))
      · intro k hk
        conv => whnf
        refine And.intro (fun h_ => ?_) (fun h_ => ?_)
        · conv => whnf
          have hk' : k < l.queue.length := by simpa using h_
          obtain ⟨x, hx⟩ : ∃ x, l.queue[k]? = some x := ⟨_, List.getElem?_eq_getElem hk'⟩
          have hn := rid_snoc (o := o) hx
          have hlen : (rid o (l.queue.take k)).length ≤ 100000 := by have := rid_le o (l.queue.take k); rw [List.length_take] at this; omega
          refine ⟨by omega, cLock x, by simp [hx], rfl, ?_⟩
          conv => whnf
          refine And.intro (fun q4 => ?_) (fun q4 => ?_) <;> (conv => whnf)
          · rw [q4, if_pos rfl] at hn
            refine ⟨by omega, cLock x, by simp [hx], rfl, ?_⟩
            conv => whnf
            refine ⟨fun y hy => by simp at hy; subst hy; rfl, ?_⟩
            conv => whnf
            refine ⟨by simp, by (first | (simp; omega) | (first | omega | (dsimp only; omega) | (simp; done) | (simp; omega))), ?_⟩
            conv => whnf
            intro z hz
            conv => whnf
            rw [wrap_small (by omega) (by omega)] at hz
            subst hz
            refine ⟨k + 1, [0, 1, 2, 3, 5], by omega, by omega, And.intro rfl (And.intro ?_ ?_)⟩
            all_goals (try rw [hn])
            all_goals (repeat' (first | exact True.intro | exact rfl | refine And.intro ?_ ?_))
            · show PV.row 0 5 ((rid o (l.queue.take k)).length + 1) = PV.row 0 5 (rid o (l.queue.take k) ++ [_]).length
              rw [List.length_append]; rfl
            · rw [List.map_append]; rfl
          · rw [q4, if_neg (by simp)] at hn
            intro z hz
            conv => whnf
            rw [wrap_small (by omega) (by omega)] at hz
            subst hz
            refine ⟨k + 1, [0, 1, 2, 3, 4], by omega, by omega, And.intro rfl (And.intro ?_ ?_)⟩
            all_goals (try rw [hn])
            all_goals (repeat' (first | exact True.intro | exact rfl | refine And.intro ?_ ?_))
        · conv => whnf
          have hk' : k = l.queue.length := by simp at h_; omega
          subst hk'
          rw [List.take_length]
          refine loopV_of dS (DOk (l.held.length + l.queue.length) R) (fun i => i.rest.length) ⟨rid o l.held, [], rid o l.queue, [], 0⟩ [1, 2, 5, 3, 4] hI0 ?_ ?_
          · refine And.intro rfl (And.intro ?_ ?_)
            all_goals (repeat' (first | exact True.intro | exact rfl | refine And.intro ?_ ?_))
          · rintro ⟨h, pre, rest, g, fl⟩ ⟨hR, hn, s1, s2, p1, p2⟩
            have e1 : ∀ {α : Type} (a : List α) (y : α) (b : List α), (a ++ [y]) ++ b = a ++ y :: b := fun a y b => by simp
            rcases rest with _ | ⟨x, rest⟩
            · have hR0 : R = (⟨h, pre ++ []⟩, g) := by rw [List.append_nil]; exact hR
              have sm : h.length < 100000 ∧ (pre ++ [] : List Lock).length < 100000 ∧ smallL h ∧ smallL (pre ++ []) := ⟨by simp at hn; omega, by simp at hn ⊢; omega, s1, s2⟩
              clear hR
              rcases fl with _ | _ | fl
              · conv => whnf
                refine And.intro (fun q => ?_) (fun _ => ?_)
                · exfalso; simp at q; try omega
                conv => whnf
                repeat' (first
                  | (refine ⟨_, _, (d_copyT h (pre ++ []) _ _ rfl rfl sm _).md _ _, True.intro, ?_⟩; conv => whnf)
                  | (refine ⟨_, _, (c47 _ _ _ _ _).md _ _, True.intro, ?_⟩; conv => whnf)
                  | (refine ⟨[], rfl, ?_, True.intro⟩; rw [hR0]; (repeat' (first | exact True.intro | exact rfl | refine And.intro ?_ ?_)); done)
                  | (refine And.intro ?_ ?_ <;> (conv => whnf))
                  | fail)
              · conv => whnf
                refine And.intro (fun q => ?_) (fun _ => ?_)
                · exfalso; simp at q; try omega
                conv => whnf
                repeat' (first
                  | (refine ⟨_, _, (d_copy ⟨h, pre ++ []⟩ sm _).md _ _, True.intro, ?_⟩; conv => whnf)
                  | (refine ⟨_, _, (c47 _ _ _ _ _).md _ _, True.intro, ?_⟩; conv => whnf)
                  | (refine ⟨[], rfl, ?_, True.intro⟩; rw [hR0]; (repeat' (first | exact True.intro | exact rfl | refine And.intro ?_ ?_)); done)
                  | (refine And.intro ?_ ?_ <;> (conv => whnf))
                  | fail)
              · conv => whnf
                refine And.intro (fun q => ?_) (fun _ => ?_)
                · exfalso; simp at q; try omega
                conv => whnf
                repeat' (first
                  | (refine ⟨_, _, (d_copyM h (pre ++ []) _ rfl sm _).md _ _, True.intro, ?_⟩; conv => whnf)
                  | (refine ⟨_, _, (c47 _ _ _ _ _).md _ _, True.intro, ?_⟩; conv => whnf)
                  | (refine ⟨[], rfl, ?_, True.intro⟩; rw [hR0]; (repeat' (first | exact True.intro | exact rfl | refine And.intro ?_ ?_)); done)
                  | (refine And.intro ?_ ?_ <;> (conv => whnf))
                  | fail)
            · have hn : h.length + pre.length + (rest.length + 1) ≤ l.held.length + l.queue.length := hn
              have hlen : (pre ++ x :: rest).length < 100000 := by simp; omega
              have hb1 := fun H => c48 ⟨h, pre ++ x :: rest⟩ x pre.length (by simp) (by show h.length < _; omega) hlen p1 p2 H
              have cvt : ∀ {b : Bool}, decide (((rAhead ⟨h, pre ++ x :: rest⟩ x pre.length).map fun x => [DV.int .i64 x]).length > (0 : Int)) = b → decide (((rAhead ⟨h, pre ++ x :: rest⟩ x pre.length).length : Int) > 0) = b := fun e => by rw [List.length_map] at e; exact e
              have hA1 : (0 : Int) ≤ ((pre.length : Nat) : Int) := by omega
              have hA2 : ((pre.length : Nat) : Int) ≤ (((pre ++ x :: rest).map cLock).length : Int) := by simp; omega
              have hB1 : (0 : Int) ≤ ((pre.length : Nat) : Int) + 1 := by omega
              have hB2 : ((pre.length : Nat) : Int) + 1 ≤ (((pre ++ x :: rest).map cLock).length : Int) := by simp; omega
              have hB3 : ((pre.length : Nat) : Int) + 1 < 9223372036854775808 := by omega
              have hT : ∀ y ∈ List.take ((pre.length : Nat) : Int).toNat ((pre ++ x :: rest).map cLock), y.length = 7 := fun y hy => len7 y (List.mem_of_mem_take hy)
              have hD : ∀ y ∈ List.drop (((pre.length : Nat) : Int) + 1).toNat ((pre ++ x :: rest).map cLock), y.length = 7 := fun y hy => len7 y (List.mem_of_mem_drop hy)
              have c1 : (0 + (List.take ((pre.length : Nat) : Int).toNat ((pre ++ x :: rest).map cLock)).length) * 88 ≤ 140737488355328 := by rw [List.length_take, List.length_map]; omega
              have c2 : 0 + (List.take ((pre.length : Nat) : Int).toNat ((pre ++ x :: rest).map cLock)).length = ([] ++ List.take ((pre.length : Nat) : Int).toNat ((pre ++ x :: rest).map cLock)).length := by simp
              have c3 : (0 + (List.take ((pre.length : Nat) : Int).toNat ((pre ++ x :: rest).map cLock)).length + (List.drop (((pre.length : Nat) : Int) + 1).toNat ((pre ++ x :: rest).map cLock)).length) * 88 ≤ 140737488355328 := by rw [List.length_take, List.length_drop, List.length_map]; omega
              have hDB : decide (((rAhead ⟨h, pre ++ x :: rest⟩ x pre.length).length : Int) > 0) = false → DOk (l.held.length + l.queue.length) R ⟨holdL h x, pre, rest, g ++ [x.owner], 2⟩ := fun e =>
                ⟨by rw [← dropB e]; exact hR, by have := holdL_le h x; show (holdL h x).length + pre.length + rest.length ≤ _; omega, holdL_small s1 (s2 x (by simp)), fun y hy => s2 y (by simp only [List.mem_append, List.mem_cons] at hy ⊢; rcases hy with hy | hy <;> simp [hy]), holdL_own p1 (p2 x (by simp)), fun y hy => p2 y (by simp only [List.mem_append, List.mem_cons] at hy ⊢; rcases hy with hy | hy <;> simp [hy])⟩
              have hDB := fun q => hDB (cvt q)
              have cq := cutQ pre rest x
              have cl : 0 + (List.take ((pre.length : Nat) : Int).toNat ((pre ++ x :: rest).map cLock)).length + (List.drop (((pre.length : Nat) : Int) + 1).toNat ((pre ++ x :: rest).map cLock)).length = (pre ++ rest).length := by
                have := congrArg List.length cq
                simp only [List.length_append, List.length_nil, Nat.zero_add, List.length_map] at this ⊢
                exact this
              rcases fl with _ | _ | fl
              · have hb : ∀ H, CallEq X H 57 [.agg [.d (.sl (List.take h.length (h.map cLock))), .d (.sl (List.take (pre ++ x :: rest).length ((pre ++ x :: rest).map cLock)))], .d (.int .i64 pre.length)] (pB x (h ++ (pre ++ x :: rest).take pre.length)) [] := fun H => by rw [takeL, takeL]; exact hb1 H
                conv => whnf
                refine And.intro (fun _ => ?_) (fun q => ?_)
                rotate_left
                · exfalso; simp at q; try omega
                · conv => whnf
                  refine ⟨_, _, (hb _).md _ _, True.intro, ?_⟩
                  conv => whnf
                  refine ⟨_, _, (c47 _ _ _ _ _).md _ _, True.intro, ?_⟩
                  conv => whnf
                  refine And.intro (fun qq => ?_) (fun qq => ?_) <;> (conv => whnf)
                  · intro z hz
                    conv => whnf
                    rw [wrap_small (by omega) (by omega)] at hz
                    subst hz
                    rw [takeL h, takeL (pre ++ x :: rest)]
                    refine ⟨⟨h, pre ++ [x], rest, g, 1⟩, [0, 1, 2], ⟨by rw [← dropA (cvt qq)]; exact hR, by simp; omega, s1, by simpa using s2, p1, by simpa using p2⟩, by simp, And.intro rfl (And.intro ?_ ?_)⟩
                    all_goals (try rw [e1])
                    all_goals (repeat' (first | exact True.intro | exact rfl | refine And.intro ?_ ?_))
                    · show DV.int .i64 ((pre.length : Int) + 1) = .int .i64 (((pre ++ [x]).length : Nat) : Int)
                      simp
                    · show encLocks (pre ++ x :: rest) = encLocks ((pre ++ [x]) ++ rest)
                      rw [e1]
                  · rw [takeL h, takeL (pre ++ x :: rest)]
                    refine ⟨by omega, cLock x, getQ pre rest x, rfl, ?_⟩
                    conv => whnf
                    refine idx4 (p2 x (by simp)) (fun ho => ?_) (fun ho => ?_) (fun ho => ?_) (fun ho => ?_) <;> (conv => whnf)
                    all_goals
                      refine ⟨_, _, (d_hold ⟨h, []⟩ x ⟨by show h.length < _; omega, by show 0 < _; omega, s1, fun y hy => by cases hy⟩ (by show h.length < _; omega) (s2 x (by simp)) _).md _ _, True.intro, ?_⟩
                      conv => whnf
                      apply byLeaf
                      · intro fin
                        repeat' (first
                          | (refine ⟨hA1, hA2, ?_⟩; conv => whnf)
                          | (refine ⟨len7, hB1, hB2, ?_⟩; conv => whnf)
                          | (refine ⟨hT, ?_⟩; (conv => whnf); refine ⟨rfl, c1, ?_⟩; conv => whnf)
                          | (refine ⟨hD, ?_⟩; (conv => whnf); refine ⟨c2, c3, ?_⟩; conv => whnf)
                          | (intro z hz; (conv => whnf); rw [wrap_small hB1 hB3] at hz; subst hz; conv => whnf)
                          | (refine And.intro ?_ ?_ <;> (conv => whnf))
                          | fail)
                        all_goals exact fin
                      · refine ⟨⟨holdL h x, pre, rest, g ++ [x.owner], 2⟩, [0, 1, 2, 9], hDB qq, by simp, And.intro rfl (And.intro ?_ ?_)⟩
                        all_goals (repeat' (first | exact True.intro | exact rfl | refine And.intro ?_ ?_))
                        all_goals first
                          | exact cq
                          | (show DV.bool _ = DV.bool _; rw [hasI_snoc, ho]; simp; done)
                          | (show PV.row 0 9 _ = PV.row 0 9 _; exact congrArg (PV.row 0 9) cl)
              · have hb : ∀ H, CallEq X H 57 [.agg [.d (encLocks h), .d (encLocks (pre ++ x :: rest))], .d (.int .i64 pre.length)] (pB x (h ++ (pre ++ x :: rest).take pre.length)) [] := fun H => by exact hb1 H
                conv => whnf
                refine And.intro (fun _ => ?_) (fun q => ?_)
                rotate_left
                · exfalso; simp at q; try omega
                · conv => whnf
                  refine ⟨_, _, (hb _).md _ _, True.intro, ?_⟩
                  conv => whnf
                  refine ⟨_, _, (c47 _ _ _ _ _).md _ _, True.intro, ?_⟩
                  conv => whnf
                  refine And.intro (fun qq => ?_) (fun qq => ?_) <;> (conv => whnf)
                  · intro z hz
                    conv => whnf
                    rw [wrap_small (by omega) (by omega)] at hz
                    subst hz
                    refine ⟨⟨h, pre ++ [x], rest, g, 1⟩, [0, 1, 2], ⟨by rw [← dropA (cvt qq)]; exact hR, by simp; omega, s1, by simpa using s2, p1, by simpa using p2⟩, by simp, And.intro rfl (And.intro ?_ ?_)⟩
                    all_goals (try rw [e1])
                    all_goals (repeat' (first | exact True.intro | exact rfl | refine And.intro ?_ ?_))
                    · show DV.int .i64 ((pre.length : Int) + 1) = .int .i64 (((pre ++ [x]).length : Nat) : Int)
                      simp
                    · show encLocks (pre ++ x :: rest) = encLocks ((pre ++ [x]) ++ rest)
                      rw [e1]
                  · refine ⟨by omega, cLock x, getQ pre rest x, rfl, ?_⟩
                    conv => whnf
                    refine idx4 (p2 x (by simp)) (fun ho => ?_) (fun ho => ?_) (fun ho => ?_) (fun ho => ?_) <;> (conv => whnf)
                    all_goals
                      refine ⟨_, _, (d_hold ⟨h, []⟩ x ⟨by show h.length < _; omega, by show 0 < _; omega, s1, fun y hy => by cases hy⟩ (by show h.length < _; omega) (s2 x (by simp)) _).md _ _, True.intro, ?_⟩
                      conv => whnf
                      apply byLeaf
                      · intro fin
                        repeat' (first
                          | (refine ⟨hA1, hA2, ?_⟩; conv => whnf)
                          | (refine ⟨len7, hB1, hB2, ?_⟩; conv => whnf)
                          | (refine ⟨hT, ?_⟩; (conv => whnf); refine ⟨rfl, c1, ?_⟩; conv => whnf)
                          | (refine ⟨hD, ?_⟩; (conv => whnf); refine ⟨c2, c3, ?_⟩; conv => whnf)
                          | (intro z hz; (conv => whnf); rw [wrap_small hB1 hB3] at hz; subst hz; conv => whnf)
                          | (refine And.intro ?_ ?_ <;> (conv => whnf))
                          | fail)
                        all_goals exact fin
                      · refine ⟨⟨holdL h x, pre, rest, g ++ [x.owner], 2⟩, [0, 1, 2, 7], hDB qq, by simp, And.intro rfl (And.intro ?_ ?_)⟩
                        all_goals (repeat' (first | exact True.intro | exact rfl | refine And.intro ?_ ?_))
                        all_goals first
                          | exact cq
                          | (show DV.bool _ = DV.bool _; rw [hasI_snoc, ho]; simp; done)
                          | (show PV.row 0 7 _ = PV.row 0 7 _; exact congrArg (PV.row 0 7) cl)
              · have hb : ∀ H, CallEq X H 57 [.agg [.d (encLocks h), .d (.sl (List.take (pre ++ x :: rest).length ((pre ++ x :: rest).map cLock)))], .d (.int .i64 pre.length)] (pB x (h ++ (pre ++ x :: rest).take pre.length)) [] := fun H => by rw [takeL]; exact hb1 H
                conv => whnf
                refine And.intro (fun _ => ?_) (fun q => ?_)
                rotate_left
                · exfalso; simp at q; try omega
                · conv => whnf
                  refine ⟨_, _, (hb _).md _ _, True.intro, ?_⟩
                  conv => whnf
                  refine ⟨_, _, (c47 _ _ _ _ _).md _ _, True.intro, ?_⟩
                  conv => whnf
                  refine And.intro (fun qq => ?_) (fun qq => ?_) <;> (conv => whnf)
                  · intro z hz
                    conv => whnf
                    rw [wrap_small (by omega) (by omega)] at hz
                    subst hz
                    rw [takeL (pre ++ x :: rest)]
                    refine ⟨⟨h, pre ++ [x], rest, g, 1⟩, [0, 1, 2], ⟨by rw [← dropA (cvt qq)]; exact hR, by simp; omega, s1, by simpa using s2, p1, by simpa using p2⟩, by simp, And.intro rfl (And.intro ?_ ?_)⟩
                    all_goals (try rw [e1])
                    all_goals (repeat' (first | exact True.intro | exact rfl | refine And.intro ?_ ?_))
                    · show DV.int .i64 ((pre.length : Int) + 1) = .int .i64 (((pre ++ [x]).length : Nat) : Int)
                      simp
                    · show encLocks (pre ++ x :: rest) = encLocks ((pre ++ [x]) ++ rest)
                      rw [e1]
                  · rw [takeL (pre ++ x :: rest)]
                    refine ⟨by omega, cLock x, getQ pre rest x, rfl, ?_⟩
                    conv => whnf
                    refine idx4 (p2 x (by simp)) (fun ho => ?_) (fun ho => ?_) (fun ho => ?_) (fun ho => ?_) <;> (conv => whnf)
                    all_goals
                      refine ⟨_, _, (d_hold ⟨h, []⟩ x ⟨by show h.length < _; omega, by show 0 < _; omega, s1, fun y hy => by cases hy⟩ (by show h.length < _; omega) (s2 x (by simp)) _).md _ _, True.intro, ?_⟩
                      conv => whnf
                      apply byLeaf
                      · intro fin
                        repeat' (first
                          | (refine ⟨hA1, hA2, ?_⟩; conv => whnf)
                          | (refine ⟨len7, hB1, hB2, ?_⟩; conv => whnf)
                          | (refine ⟨hT, ?_⟩; (conv => whnf); refine ⟨rfl, c1, ?_⟩; conv => whnf)
                          | (refine ⟨hD, ?_⟩; (conv => whnf); refine ⟨c2, c3, ?_⟩; conv => whnf)
                          | (intro z hz; (conv => whnf); rw [wrap_small hB1 hB3] at hz; subst hz; conv => whnf)
                          | (refine And.intro ?_ ?_ <;> (conv => whnf))
                          | fail)
                        all_goals exact fin
                      · refine ⟨⟨holdL h x, pre, rest, g ++ [x.owner], 2⟩, [0, 1, 2, 8], hDB qq, by simp, And.intro rfl (And.intro ?_ ?_)⟩
                        all_goals (repeat' (first | exact True.intro | exact rfl | refine And.intro ?_ ?_))
                        all_goals first
                          | exact cq
                          | (show DV.bool _ = DV.bool _; rw [hasI_snoc, ho]; simp; done)
                          | (show PV.row 0 8 _ = PV.row 0 8 _; exact congrArg (PV.row 0 8) cl)
end Go.Proofs.Ve
