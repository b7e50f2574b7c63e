/- Whether locks may be; who waits, and for whom. -/
import Derived.Test.YtpmhiiembbfbeaaK12
set_option maxRecDepth 100000
set_option linter.all false
namespace Go.Proofs.Ve
open Go
def lQok (l : Locks) (y : Lock) (k : Nat) : Bool := place l.queue y.owner == (k : Int) && decide (((lAhead l y k).length : Int) > 0)
def lQ (l : Locks) : List Lock → Nat → Bool
  | [], _ => true
  | y :: ys, k => bif lQok l y k then lQ l ys (k + 1) else false
theorem lQ_step {l : Locks} {k : Nat} {y : Lock} (h : l.queue[k]? = some y) : lQ l (l.queue.drop k) k = bif lQok l y k then lQ l (l.queue.drop (k + 1)) (k + 1) else false := by
  have hk := (List.getElem?_eq_some_iff.1 h).1
  rw [List.drop_eq_getElem_cons hk, (List.getElem?_eq_some_iff.1 h).2, lQ]
def lCheck (l : Locks) : Bool :=
  !(decide ((l.held.length : Int) + l.queue.length > 40) || (l.held.any (fun x => !lMay x) || l.queue.any fun x => !lMay x)) && (lQ l l.queue 0 && (singleFrom [] l.held && !l.queue.any fun x => l.held.any (lWeak x)))
theorem c19 (l : Locks) (h1 : l.held.length < 100000) (h2 : l.queue.length < 100000) (H : List (List Blk)) : CallEq X H 19 [pLocks l] (.d (.bool (lCheck l))) [] := by
  refine callEq_of_body X_ok rfl Try.func19 rfl ?_
  conv => whnf
  intro z hz
  conv => whnf
  rw [wrap_small (by (first | omega | (dsimp only; omega) | (simp; done) | (simp; omega))) (by (first | omega | (dsimp only; omega) | (simp; done) | (simp; omega))), List.length_map, List.length_map] at hz
  subst hz
  have key : (decide ((l.held.length : Int) + l.queue.length > 40)) = false → l.held.any (fun x => !lMay x) = false → l.queue.any (fun x => !lMay x) = false → lCheck l = (lQ l l.queue 0 && (singleFrom [] l.held && !l.queue.any fun x => l.held.any (lWeak x))) := fun a b c => by
    unfold lCheck; rw [a, b, c]; rfl
  refine And.intro (fun e1 => ?_) (fun e1 => ?_) <;> (conv => whnf)
  · refine ⟨_, _, c51a l.held (by omega) _, True.intro, ?_⟩
    conv => whnf
    refine And.intro (fun e2 => ?_) (fun e2 => ?_) <;> (conv => whnf)
    · refine ⟨_, _, c51a l.queue (by omega) _, True.intro, ?_⟩
      conv => whnf
      refine And.intro (fun e3 => ?_) (fun e3 => ?_) <;> (conv => whnf)
      · refine ⟨[], rfl, ?_, True.intro⟩
        show DV.bool _ = .bool _
        unfold lCheck; rw [e1, e3]; simp
      · have hk := key (by simpa using e1) (by simpa using e2) (by simpa using e3)
        refine loopV_of (fun k : Nat => ⟨[.any, .ptr 0 0 0, .any, .any, .ptr 0 1 0, .func (.func 45) [.agg [.d (encLocks l.held), .d (encLocks l.queue)]] [], .any, .any, .any, .any, .any, .any, .any, .any, .any, .any, .any, .any, .any, .any, .any, .any, .any, .any, .any, .any, .any, .any, .any, .any, .any, .any, .any, .d (encLocks l.queue), .d (.int .i64 (l.queue.map cLock).length), .d (.int .i64 k), .any, .any, .any, .any, .any, .any, .any, .any, .any, .any, .any, .any, .any, .any, .any, .any, .any, .any, .any, .any, .any, .any, .any, .any, .any, .any, .any, .any, .any], [.box [.d (encLocks l.held), .d (encLocks l.queue)], .box [.d (encLocks l.held), .d (encLocks l.queue)]]⟩)
          (fun k => k ≤ l.queue.length ∧ lQ l l.queue 0 = lQ l (l.queue.drop k) k) (fun k => l.queue.length - k) 0 [0, 1] ⟨Nat.zero_le _, rfl⟩ ?_ ?_
        · refine And.intro rfl (And.intro ?_ ?_)
          all_goals (repeat' (first | exact True.intro | exact rfl | refine And.intro ?_ ?_))
        · rintro k ⟨hkl, hidx⟩
          conv => whnf
          refine And.intro (fun h_ => ?_) (fun h_ => ?_)
          · conv => whnf
            have hk' : k < l.queue.length := by simpa using h_
            obtain ⟨y, hy⟩ : ∃ y, l.queue[k]? = some y := ⟨_, List.getElem?_eq_getElem hk'⟩
            have hst := lQ_step hy
            have out : lQok l y k = false → DV.bool false = .bool (lCheck l) := fun h => by rw [hk, hidx, hst, h]; rfl
            have next : lQok l y k = true → lQ l l.queue 0 = lQ l (l.queue.drop (k + 1)) (k + 1) := fun h => by rw [hidx, hst, h]; rfl
            refine ⟨by omega, cLock y, by simp [hy], rfl, ?_⟩
            conv => whnf
            refine ⟨_, _, c44 l y.owner (by omega) _, True.intro, ?_⟩
            conv => whnf
            refine And.intro (fun q1 => ?_) (fun q1 => ?_) <;> (conv => whnf)
            · refine ⟨_, _, c45 l y k (by omega) h1 h2 _, True.intro, ?_⟩
              conv => whnf
              have e0 : (((lAhead l y k).map fun x => [DV.int .i64 x]).length : Int) = ((lAhead l y k).length : Int) := by simp
              refine And.intro (fun q2 => ?_) (fun q2 => ?_) <;> (conv => whnf)
              · intro z hz
                conv => whnf
                rw [wrap_small (by omega) (by omega)] at hz
                subst hz
                refine ⟨k + 1, [0, 1], ⟨by omega, next ?_⟩, by omega, And.intro rfl (And.intro ?_ ?_)⟩
                · unfold lQok; rw [q1, ← e0]; simpa using q2
                all_goals (repeat' (first | exact True.intro | exact rfl | refine And.intro ?_ ?_))
              · refine ⟨[], rfl, out ?_, True.intro⟩
                unfold lQok; rw [q1, ← e0]; simpa using q2
            · refine ⟨[], rfl, out ?_, True.intro⟩
              unfold lQok; rw [q1]; rfl
          · conv => whnf
            have hk' : k = l.queue.length := by simp at h_; omega
            have hq : lCheck l = (singleFrom [] l.held && !l.queue.any fun x => l.held.any (lWeak x)) := by rw [hk, hidx, hk', List.drop_length]; rfl
            refine ⟨_, _, c52 l (by omega) _, True.intro, ?_⟩
            conv => whnf
            refine And.intro (fun q1 => ?_) (fun q1 => ?_) <;> (conv => whnf)
            · refine ⟨_, _, c51c l l.queue (by omega) (by omega) _, True.intro, ?_⟩
              conv => whnf
              refine ⟨[], rfl, ?_, True.intro⟩
              show DV.bool _ = .bool _
              rw [hq, q1]; rfl
            · refine ⟨[], rfl, ?_, True.intro⟩
              show DV.bool false = .bool _
              rw [hq, q1]; rfl
    · refine ⟨[], rfl, ?_, True.intro⟩
      show DV.bool _ = .bool _
      unfold lCheck; rw [e1, e2]; simp
  · refine ⟨[], rfl, ?_, True.intro⟩
    show DV.bool _ = .bool _
    unfold lCheck; rw [e1]; simp
def lWaits (l : Locks) (o : Int) : Bool := lCheck l && decide (place l.queue o ≥ 0)
theorem c23 (l : Locks) (o : Int) (h1 : l.held.length < 100000) (h2 : l.queue.length < 100000) (H : List (List Blk)) : CallEq X H 23 [pLocks l, .d (.int .i64 o)] (.d (.bool (lWaits l o))) [] := by
  unfold lWaits
  refine callEq_of_body X_ok rfl Try.func23 rfl ?_
  conv => whnf
  repeat' (first
    | (refine And.intro (fun h_ => ?_) (fun h_ => ?_) <;> (conv => whnf))
    | (refine ⟨_, _, c19 l h1 h2 _, (by first | exact True.intro | exact And.intro rfl flat_nil), ?_⟩; conv => whnf)
    | (refine ⟨_, _, c44 l o (by omega) _, (by first | exact True.intro | exact And.intro rfl flat_nil), ?_⟩; conv => whnf)
    | (intro z_ hz_; conv => whnf)
    | (refine ⟨[], rfl, ?_, True.intro⟩; (conv => whnf); (first | done | (simp_all only [refP, Bool.not_true, Bool.not_false, Bool.true_and, Bool.false_and, Bool.and_true, Bool.and_false, Bool.true_or, Bool.false_or, Bool.or_true, Bool.or_false, Bool.not_not, Bool.not_eq_true', Bool.not_eq_false', if_true, if_false, Bool.false_eq_true, Bool.true_eq_false, List.length_map]; done))))
def lBlockers (l : Locks) (o : Int) : List Int := if lWaits l o then (match l.queue[(place l.queue o).toNat]? with | some y => lAhead l y (place l.queue o).toNat | none => []) else []
theorem place_at {l : List Lock} {o : Int} (h : place l o ≥ 0) : ∃ y, l[(place l o).toNat]? = some y ∧ y.owner = o := by
  unfold place at *
  have key : ∀ (l : List Lock) (k : Int), 0 ≤ k → idxOf (fun x : Lock => x.owner == o) l k ≥ 0 → k ≤ idxOf (fun x : Lock => x.owner == o) l k ∧ ∃ y, l[(idxOf (fun x : Lock => x.owner == o) l k - k).toNat]? = some y ∧ y.owner = o := by
    intro l
    induction l with
    | nil => intro k hk h; simp [idxOf] at h
    | cons x l ih =>
      intro k hk h
      cases hx : (x.owner == o) with
      | true => rw [idxOf, hx]; exact ⟨by simp, x, by simp, by simpa using hx⟩
      | false =>
        rw [idxOf, hx] at h ⊢
        obtain ⟨h1, y, h2, h3⟩ := ih (k + 1) (by omega) h
        refine ⟨by simp; omega, y, ?_, h3⟩
        simp only [cond_false]
        rw [show (idxOf (fun x : Lock => x.owner == o) l (k + 1) - k).toNat = (idxOf (fun x : Lock => x.owner == o) l (k + 1) - (k + 1)).toNat + 1 by omega]
        simpa using h2
  obtain ⟨_, y, h1, h2⟩ := key l 0 (by omega) h
  exact ⟨y, by simpa using h1, h2⟩
theorem c17 (l : Locks) (o : Int) (h1 : l.held.length < 100000) (h2 : l.queue.length < 100000) (H : List (List Blk)) : CallEq X H 17 [pLocks l, .d (.int .i64 o)] (.d (encI (lBlockers l o))) [] := by
  refine callEq_of_body X_ok rfl Try.func17 rfl ?_
  conv => whnf
  refine ⟨_, _, c23 l o h1 h2 _, True.intro, ?_⟩
  conv => whnf
  refine And.intro (fun q1 => ?_) (fun q1 => ?_) <;> (conv => whnf)
  · refine ⟨[], rfl, ?_, True.intro⟩
    have q1 : lWaits l o = false := by simpa using q1
    show DV.sl [] = encI (lBlockers l o)
    unfold lBlockers; rw [q1]; rfl
  · have q1 : lWaits l o = true := by simpa using q1
    have hp : place l.queue o ≥ 0 := by unfold lWaits at q1; simp at q1; exact q1.2
    obtain ⟨y, hy, ho⟩ := place_at hp
    refine ⟨_, _, c44 l o (by omega) _, True.intro, ?_⟩
    conv => whnf
    refine ⟨hp, cLock y, by simp [hy], rfl, ?_⟩
    conv => whnf
    have hlt := (List.getElem?_eq_some_iff.1 hy).1
    have hc := fun H => c45 l y (place l.queue o).toNat (by omega) h1 h2 H
    rw [show (((place l.queue o).toNat : Nat) : Int) = place l.queue o by omega] at hc
    refine ⟨_, _, hc _, True.intro, ?_⟩
    conv => whnf
    refine ⟨[], rfl, ?_, True.intro⟩
    show encI _ = encI (lBlockers l o)
    unfold lBlockers; rw [q1, if_pos rfl, hy]
end Go.Proofs.Ve
