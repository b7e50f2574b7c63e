/- Drop: locks without somebody's. -/
import Derived.Test.YtpmhiiembbfbeaaK18
set_option maxRecDepth 100000
set_option linter.all false
namespace Go.Proofs.Ve
open Go
def dropStep (s : Locks × List Int) (x : Lock) : Locks × List Int :=
  if decide (((lAhead s.1 x s.1.queue.length).length : Int) > 0) then (⟨s.1.held, s.1.queue ++ [x]⟩, s.2) else (⟨holdL s.1.held x, s.1.queue⟩, s.2 ++ [x.owner])
def rid (o : Int) (l : List Lock) : List Lock := l.filter fun x => !(x.owner == o)
def dropAll (l : Locks) (o : Int) : Locks × List Int := (rid o l.queue).foldl dropStep (⟨rid o l.held, []⟩, [])
def lDrop (l : Locks) (o : Int) : Locks × List Int :=
  if !lCheck l || (decide (o < 0) || decide (o ≥ 4)) then (l, []) else ((dropAll l o).1, sortI (dropAll l o).2)
theorem fold_snoc {α β : Type} {f : β → α → β} {l : List α} {k : Nat} {x : α} {b : β} (h : l[k]? = some x) : (l.take (k + 1)).foldl f b = f ((l.take k).foldl f b) x := by
  rw [take_snoc' h, List.foldl_append]; rfl
theorem hold_len (l : List Lock) (x : Lock) : (holdL l x).length ≤ l.length + 1 := by
  unfold holdL; split <;> simp
theorem dropStep_len (s : Locks × List Int) (x : Lock) : (dropStep s x).1.held.length ≤ s.1.held.length + 1 ∧ (dropStep s x).1.queue.length ≤ s.1.queue.length + 1 ∧ (dropStep s x).2.length ≤ s.2.length + 1 := by
  unfold dropStep
  have := hold_len s.1.held x
  split <;> simp <;> omega
theorem fold_len (b : Locks × List Int) : ∀ (l : List Lock), (l.foldl dropStep b).1.held.length ≤ b.1.held.length + l.length ∧ (l.foldl dropStep b).1.queue.length ≤ b.1.queue.length + l.length ∧ (l.foldl dropStep b).2.length ≤ b.2.length + l.length := by
  intro l
  induction l generalizing b with
  | nil => simp
  | cons x l ih =>
    have h1 := ih (dropStep b x)
    have h2 := dropStep_len b x
    simp only [List.foldl_cons, List.length_cons]
    omega
theorem rid_len (o : Int) (l : List Lock) : (rid o l).length ≤ l.length := List.length_filter_le _ _
theorem flat_rowI (l : List Int) (e sz : Nat) : FlatN [⟨e, sz, rowI l⟩] := by
  intro r hr x hx y hy
  simp only [List.mem_singleton] at hr
  subst hr
  simp only [rowI, List.mem_map] at hx
  obtain ⟨n, _, rfl⟩ := hx
  simp only [List.mem_singleton] at hy
  subst hy; rfl
def tr25 : Tr := (.alt 0 (.alt 4 (.alt 5 (.alt 1 (.alt 2 (.alt 3 (.alt 9 (.alt 6 (.alt 7 (.alt 8 (.alt 10 (.alt 11 .fin .none) .none) .none) .none) .none) .none) (.alt 6 (.alt 3 (.alt 9 (.alt 7 (.alt 8 (.alt 10 (.alt 11 .fin .none) .none) .none) .none) .none) (.alt 7 (.alt 3 (.alt 9 (.alt 8 (.alt 10 (.alt 11 .fin .none) .none) .none) .none) .none) .none)) .none)) (.alt 6 (.alt 2 (.alt 3 (.alt 9 (.alt 7 (.alt 8 (.alt 10 (.alt 11 .fin .none) .none) .none) .none) .none) (.alt 7 (.alt 3 (.alt 9 (.alt 8 (.alt 10 (.alt 11 .fin .none) .none) .none) .none) .none) .none)) (.alt 7 (.alt 2 (.alt 3 (.alt 9 (.alt 8 (.alt 10 (.alt 11 .fin .none) .none) .none) .none) .none) .none) .none)) .none)) (.alt 2 (.alt 1 (.alt 3 (.alt 9 (.alt 6 (.alt 7 (.alt 8 (.alt 10 (.alt 11 .fin .none) .none) .none) .none) .none) .none) (.alt 6 (.alt 3 (.alt 9 (.alt 7 (.alt 8 (.alt 10 (.alt 11 .fin .none) .none) .none) .none) .none) (.alt 7 (.alt 3 (.alt 9 (.alt 8 (.alt 10 (.alt 11 .fin .none) .none) .none) .none) .none) .none)) .none)) (.alt 6 (.alt 1 (.alt 3 (.alt 9 (.alt 7 (.alt 8 (.alt 10 (.alt 11 .fin .none) .none) .none) .none) .none) (.alt 7 (.alt 3 (.alt 9 (.alt 8 (.alt 10 (.alt 11 .fin .none) .none) .none) .none) .none) .none)) (.alt 7 (.alt 1 (.alt 3 (.alt 9 (.alt 8 (.alt 10 (.alt 11 .fin .none) .none) .none) .none) .none) .none) .none)) .none)) (.alt 6 (.alt 1 (.alt 2 (.alt 3 (.alt 9 (.alt 7 (.alt 8 (.alt 10 (.alt 11 .fin .none) .none) .none) .none) .none) (.alt 7 (.alt 3 (.alt 9 (.alt 8 (.alt 10 (.alt 11 .fin .none) .none) .none) .none) .none) .none)) (.alt 7 (.alt 2 (.alt 3 (.alt 9 (.alt 8 (.alt 10 (.alt 11 .fin .none) .none) .none) .none) .none) .none) .none)) (.alt 2 (.alt 1 (.alt 3 (.alt 9 (.alt 7 (.alt 8 (.alt 10 (.alt 11 .fin .none) .none) .none) .none) .none) (.alt 7 (.alt 3 (.alt 9 (.alt 8 (.alt 10 (.alt 11 .fin .none) .none) .none) .none) .none) .none)) (.alt 7 (.alt 1 (.alt 3 (.alt 9 (.alt 8 (.alt 10 (.alt 11 .fin .none) .none) .none) .none) .none) .none) .none)) (.alt 7 (.alt 1 (.alt 2 (.alt 3 (.alt 9 (.alt 8 (.alt 10 (.alt 11 .fin .none) .none) .none) .none) .none) .none) (.alt 2 (.alt 1 (.alt 3 (.alt 9 (.alt 8 (.alt 10 (.alt 11 .fin .none) .none) .none) .none) .none) .none) .none)) .none))) .none))) .none) .none) .none)
theorem c25r (l : Locks) (o : Int) (hs : smallLs l) (H : List (List Blk)) :
    CallEq X H 25 [pLocks l, .d (.int .i64 o)] (.tuple [rowsL (lDrop l o).1, .row 0 2 (lDrop l o).2.length]) [rLocks (lDrop l o).1.held, rLocks (lDrop l o).1.queue, ⟨3, 1, rowI (lDrop l o).2⟩] := by
  have hs0 := hs
  obtain ⟨h1, h2, h3, h4⟩ := hs
  refine callEq_of_bodyM X_ok (mo := [(11, tr25)]) (by kernel_rfl) Try.func25 rfl ?_
  conv => whnf
  have arg : (!lCheck l || (decide (o < 0) || decide (o ≥ 4))) = true → lDrop l o = (l, []) := fun h => by unfold lDrop; rw [h]; rfl
  refine ⟨_, _, c19 l h1 h2 _, True.intro, ?_⟩
  conv => whnf
  refine And.intro (fun q1 => ?_) (fun q1 => ?_) <;> (conv => whnf)
  rotate_left
  · have q1 : lCheck l = false := by simpa using q1
    rw [arg (by rw [q1]; rfl)]
    refine ⟨_, _, c60 l hs0 _, True.intro, ?_⟩
    conv => whnf
    exact ⟨[3, 4, 100], rfl, (by (repeat' (first | exact True.intro | exact rfl | refine And.intro ?_ ?_))), (by (repeat' (first | exact True.intro | exact rfl | refine And.intro ?_ ?_)))⟩
  have q1 : lCheck l = true := by simpa using q1
  refine And.intro (fun q2 => ?_) (fun q2 => ?_) <;> (conv => whnf)
  rotate_left
  · have q2 : decide (o < 0) = true := q2
    rw [arg (by rw [q2]; simp)]
    refine ⟨_, _, c60 l hs0 _, True.intro, ?_⟩
    conv => whnf
    exact ⟨[3, 4, 100], rfl, (by (repeat' (first | exact True.intro | exact rfl | refine And.intro ?_ ?_))), (by (repeat' (first | exact True.intro | exact rfl | refine And.intro ?_ ?_)))⟩
  refine And.intro (fun q3 => ?_) (fun q3 => ?_) <;> (conv => whnf)
  · rw [arg (by rw [q3]; simp)]
    refine ⟨_, _, c60 l hs0 _, True.intro, ?_⟩
    conv => whnf
    exact ⟨[3, 4, 100], rfl, (by (repeat' (first | exact True.intro | exact rfl | refine And.intro ?_ ?_))), (by (repeat' (first | exact True.intro | exact rfl | refine And.intro ?_ ?_)))⟩
  have hb : l.held.length + l.queue.length ≤ 40 := by unfold lCheck at q1; simp at q1; omega
  have k1 : lDrop l o = ((dropAll l o).1, sortI (dropAll l o).2) := by unfold lDrop; rw [q1, q2, q3]; rfl
  refine ⟨_, _, l61 (fun x => x.owner == o) 0 1 l.held _ (by omega) h3 (fun x _ T => c61 x o T _ _ _), True.intro, ?_⟩
  conv => whnf
  refine ⟨_, _, l61 (fun x => x.owner == o) 0 1 l.queue _ (by omega) h4 (fun x _ T => c61 x o T _ _ _), True.intro, ?_⟩
  conv => whnf
  obtain ⟨Q, hQ⟩ : ∃ Q, Q = rid o l.queue := ⟨_, rfl⟩
  obtain ⟨st, hst⟩ : ∃ st : Nat → Locks × List Int, st = fun k => (Q.take k).foldl dropStep (⟨rid o l.held, []⟩, []) := ⟨_, rfl⟩
  have hst0 : st 0 = (⟨rid o l.held, []⟩, []) := by rw [hst]; rfl
  have hQl : Q.length ≤ l.queue.length := by rw [hQ]; exact rid_len _ _
  have hHl : (rid o l.held).length ≤ l.held.length := rid_len _ _
  have hlen : ∀ k, (st k).1.held.length ≤ l.held.length + l.queue.length ∧ (st k).1.queue.length ≤ l.queue.length ∧ (st k).2.length ≤ l.queue.length := fun k => by
    have h := fold_len (⟨rid o l.held, []⟩, []) (Q.take k)
    rw [hst]
    have h5 : (Q.take k).length ≤ Q.length := by rw [List.length_take]; omega
    simp only [List.length_nil] at h
    dsimp only
    omega
  have hstep : ∀ (k : Nat) x, Q[k]? = some x → st (k + 1) = dropStep (st k) x := fun k x h => by rw [hst]; exact fold_snoc h
  have hlast : lDrop l o = ((st Q.length).1, sortI (st Q.length).2) := by rw [k1, hst]; dsimp only; rw [List.take_length, hQ]; rfl
  refine loopV_of (fun k : Nat => ⟨[.any, .any, .any, .any, .ptr 0 2 0, .row 0 5 (st k).2.length, .any, .any, .any, .any, .any, .any, .any, .any, .any, .any, .any, .any, .any, .any, .any, .any, .any, .any, .any, .any, .any, .any, .any, .any, .any, .any, .row 0 6 Q.length, .d (.int .i64 Q.length), .d (.int .i64 k), .any, .any, .any, .any, .any, .any, .any, .any, .any, .any, .any, .any, .any, .any, .any, .any, .any, .any, .any, .any, .any, .any, .any, .any, .any, .any, .any, .any, .any, .any, .any, .any, .any, .any], [.dead, .dead, .box [.row 0 3 (st k).1.held.length, .row 0 4 (st k).1.queue.length], (rLocks (st k).1.held).blk, (rLocks (st k).1.queue).blk, .row 3 1 (rowI (st k).2), (rLocks Q).blk]⟩)
    (fun k => k ≤ Q.length) (fun k => Q.length - k) 0 [0, 1, 2, 3, 100, 101, 4] (Nat.zero_le _) ?_ ?_
  · rw [hst0, hQ]
    refine And.intro rfl (And.intro ?_ ?_)
    all_goals (repeat' (first | exact True.intro | exact rfl | refine And.intro ?_ ?_))
  · intro k hk
    obtain ⟨b1, b2, b3⟩ := hlen k
    conv => whnf
    refine And.intro (fun h_ => ?_) (fun h_ => ?_)
    · conv => whnf
      have hk' : k < Q.length := by simpa using h_
      obtain ⟨x, hx⟩ : ∃ x, Q[k]? = some x := ⟨_, List.getElem?_eq_getElem hk'⟩
      have hs := hstep k x hx
      refine ⟨by omega, by omega, cLock x, by show (Q.map cLock)[_]? = _; rw [List.getElem?_map]; simp [hx], ?_⟩
      conv => whnf
      have hc := fun H => c45r (st k).1 x (st k).1.queue.length (Nat.le_refl _) (by omega) (by omega) H
      have e1 : pLocks (st k).1 = .agg [.d (.sl (List.take (st k).1.held.length ((st k).1.held.map cLock))), .d (.sl (List.take (st k).1.queue.length ((st k).1.queue.map cLock)))] := by
        rw [List.take_of_length_le (by simp), List.take_of_length_le (by simp)]; rfl
      rw [e1] at hc
      refine ⟨_, _, hc _, And.intro rfl (flat_rowI _ _ _), ?_⟩
      conv => whnf
      refine And.intro (fun q4 => ?_) (fun q4 => ?_) <;> (conv => whnf)
      · have q4 : decide (((lAhead (st k).1 x (st k).1.queue.length).length : Int) > 0) = true := q4
        have hd : dropStep (st k) x = (⟨(st k).1.held, (st k).1.queue ++ [x]⟩, (st k).2) := by unfold dropStep; rw [if_pos q4]
        rw [hd] at hs
        have hql : (st (k + 1)).1.queue.length = (st k).1.queue.length + 1 := by rw [hs]; simp
        refine ⟨fun y hy => by simp at hy; subst hy; rfl, ?_⟩
        conv => whnf
        refine ⟨(List.length_map _).symm, by (first | omega | (dsimp only; omega) | (simp; done) | (simp; omega)), ?_⟩
        conv => whnf
        intro z hz
        conv => whnf
        rw [wrap_small (by omega) (by omega)] at hz
        subst hz
        refine ⟨k + 1, [0, 1, 2, 3, 10, 5, 6], by omega, by omega, And.intro rfl (And.intro ?_ ?_)⟩
        all_goals rw [hs]
        all_goals (repeat' (first | exact True.intro | exact rfl | refine And.intro ?_ ?_))
        · show PV.row 0 10 (_ + _) = PV.row 0 10 (List.length (_ ++ _))
          rw [List.length_append]; rfl
        · show _ = List.map cLock (_ ++ _)
          rw [List.map_append]; rfl
      · have q4 : decide (((lAhead (st k).1 x (st k).1.queue.length).length : Int) > 0) = false := q4
        have hd : dropStep (st k) x = (⟨holdL (st k).1.held x, (st k).1.queue⟩, (st k).2 ++ [x.owner]) := by unfold dropStep; rw [if_neg (by simpa using q4)]
        rw [hd] at hs
        have hgl : (st (k + 1)).2.length = (st k).2.length + 1 := by rw [hs]; simp
        repeat' (first
          | (refine ⟨fun y hy => by simp at hy; subst hy; rfl, ?_⟩; (conv => whnf); refine ⟨(rowI_len _).symm, by (first | omega | (dsimp only; omega) | (simp; done) | (simp; omega)), ?_⟩; (conv => whnf))
          | (refine ⟨_, _, _, c63 (st k).1.held x (by omega) _, ?_⟩; conv => whnf)
          | (refine And.intro ?_ ?_ <;> (conv => whnf)))
        all_goals
          intro z hz
          conv => whnf
          rw [wrap_small (by omega) (by omega)] at hz
          subst hz
          refine ⟨k + 1, [0, 1, 2, 10, 4, 11, 6], by omega, by omega, And.intro rfl (And.intro ?_ ?_)⟩
          all_goals rw [hs]
          all_goals (repeat' (first | exact True.intro | exact rfl | refine And.intro ?_ ?_))
          all_goals (first
            | (show PV.row 0 11 (_ + _) = PV.row 0 11 (List.length (_ ++ _)); rw [List.length_append]; rfl)
            | (show _ = rowI (_ ++ _); unfold rowI; rw [List.map_append]; rfl))
    · conv => whnf
      have hk' : k = Q.length := by simp at h_; omega
      subst hk'
      refine ⟨_, _, _, c64 (st Q.length).2 (by omega) _, ?_⟩
      conv => whnf
      rw [hlast]
      refine ⟨[3, 4, 5], rfl, ?_, ?_⟩
      all_goals (repeat' (first | exact True.intro | exact rfl | refine And.intro ?_ ?_))
      show PV.row 0 5 _ = PV.row 0 5 _
      rw [sortI_len]
theorem fzD (r : Locks × List Int) : fz [rLocks r.1.held, rLocks r.1.queue, ⟨3, 1, rowI r.2⟩] 3 (.tuple [rowsL r.1, .row 0 2 r.2.length]) = .tuple [pLocks r.1, .d (encI r.2)] := by
  change PV.tuple [.agg [.d (.sl (List.take r.1.held.length (r.1.held.map cLock))), .d (.sl (List.take r.1.queue.length (r.1.queue.map cLock)))], .d (.sl (List.take r.2.length (rowI r.2)))] = _
  rw [List.take_of_length_le (by simp), List.take_of_length_le (by simp), List.take_of_length_le (by rw [rowI_len]; exact Nat.le_refl _)]; rfl
def pDropF (r : Locks × List Int) : PV := .tuple [pLocks r.1, .d (encI r.2)]
theorem c25 (l : Locks) (o : Int) (hs : smallLs l) (H : List (List Blk)) : CallEq X H 25 [pLocks l, .d (.int .i64 o)] (pDropF (lDrop l o)) [] :=
  (c25r l o hs H).freeze 3 (fzD _)
end Go.Proofs.Ve
