/- Plain words that Lean can reckon with: Ask, Drop, Check. -/
import Derived.Test.YtpmhiiembbfbeaaP2
set_option linter.all false
namespace Go.Proofs.Ve
open Go
def ins (x : Int) : List Int → List Int
  | [] => [x]
  | y :: ys => if x ≤ y then x :: y :: ys else y :: ins x ys
def isort : List Int → List Int
  | [] => []
  | x :: xs => ins x (isort xs)
theorem ins_mem (x : Int) : ∀ (l : List Int) (z : Int), z ∈ ins x l ↔ z = x ∨ z ∈ l
  | [], z => by simp [ins]
  | y :: l, z => by
    rw [ins]
    split
    · simp
    · rw [List.mem_cons, ins_mem x l z, List.mem_cons]
      constructor
      · rintro (h | h | h) <;> simp [h]
      · rintro (h | h | h) <;> simp [h]
theorem ins_sorted (x : Int) : ∀ (l : List Int), l.Pairwise (· ≤ ·) → (ins x l).Pairwise (· ≤ ·)
  | [], _ => by simp [ins]
  | y :: l, h => by
    rw [List.pairwise_cons] at h
    rw [ins]
    split
    · rename_i hxy
      refine List.pairwise_cons.2 ⟨fun z hz => ?_, List.pairwise_cons.2 h⟩
      rw [List.mem_cons] at hz
      rcases hz with rfl | hz
      · exact hxy
      · have := h.1 z hz; omega
    · rename_i hxy
      refine List.pairwise_cons.2 ⟨fun z hz => ?_, ins_sorted x l h.2⟩
      rw [ins_mem] at hz
      rcases hz with rfl | hz
      · omega
      · exact h.1 z hz
theorem isort_mem : ∀ (l : List Int) (z : Int), z ∈ isort l ↔ z ∈ l
  | [], z => by simp [isort]
  | x :: l, z => by rw [isort, ins_mem, isort_mem l z, List.mem_cons]
theorem isort_sorted : ∀ (l : List Int), (isort l).Pairwise (· ≤ ·)
  | [] => List.Pairwise.nil
  | x :: l => ins_sorted x _ (isort_sorted l)
theorem ins_perm (x : Int) : ∀ (l : List Int), (ins x l).Perm (x :: l)
  | [] => .refl _
  | y :: l => by
    rw [ins]
    split
    · exact .refl _
    · exact ((ins_perm x l).cons y).trans (.swap x y l)
theorem isort_perm : ∀ (l : List Int), (isort l).Perm l
  | [] => .refl _
  | x :: l => (ins_perm x _).trans ((isort_perm l).cons x)
theorem sortI_isort (l : List Int) : sortI l = isort l :=
  List.Perm.eq_of_pairwise (le := fun a b : Int => a ≤ b) (fun a b _ _ h1 h2 => by omega) (sortI_sorted l) (isort_sorted l) ((List.mergeSort_perm l _).trans (isort_perm l).symm)
theorem once_dd (l : List Int) : once l = dd (isort l) := by unfold once; rw [comp_dd, sortI_isort]
def eAhead (l : Locks) (x : Lock) (k : Nat) : List Int := dd (isort (aheadOf x (l.held ++ l.queue.take k)))
theorem eahead_eq (l : Locks) (x : Lock) (k : Nat) : lAhead l x k = eAhead l x k := once_dd _
def eQ (l : Locks) : List Lock → Nat → Bool
  | [], _ => true
  | y :: ys, k => bif place l.queue y.owner == (k : Int) && decide (((eAhead l y k).length : Int) > 0) then eQ l ys (k + 1) else false
theorem eq_eq (l : Locks) : ∀ (xs : List Lock) (k : Nat), lQ l xs k = eQ l xs k
  | [], k => rfl
  | x :: xs, k => by rw [lQ, eQ, eq_eq l xs]; unfold lQok; rw [eahead_eq]
def eCheck (l : Locks) : Bool :=
  !(decide ((l.held.length : Int) + l.queue.length > 40) || (l.held.any (fun x => !lMay x) || l.queue.any fun x => !lMay x)) && (eQ l l.queue 0 && (singleFrom [] l.held && !l.queue.any fun x => l.held.any (lWeak x)))
theorem echeck_eq (l : Locks) : lCheck l = eCheck l := by unfold lCheck eCheck; rw [eq_eq]
def eWaits (l : Locks) (o : Int) : Bool := eCheck l && decide (place l.queue o ≥ 0)
theorem ewaits_eq (l : Locks) (o : Int) : lWaits l o = eWaits l o := by unfold lWaits eWaits; rw [echeck_eq]
def eBlockers (l : Locks) (o : Int) : List Int := if eWaits l o then (match l.queue[(place l.queue o).toNat]? with | some y => eAhead l y (place l.queue o).toNat | none => []) else []
theorem eblockers_eq (l : Locks) (o : Int) : lBlockers l o = eBlockers l o := by
  unfold lBlockers eBlockers
  rw [ewaits_eq]
  cases l.queue[(place l.queue o).toNat]? with
  | some y => simp only [eahead_eq]
  | none => rfl
def eAsk (l : Locks) (x : Lock) : Locks × Int :=
  if !eCheck l || (!lMay x || eWaits l x.owner) then (l, 1)
  else if l.held.any (fun h => lServes h x) then (l, 0)
  else if decide ((l.held.length : Int) + l.queue.length ≥ 40) then (l, 111)
  else if decide (((eAhead l (lJoined l x) l.queue.length).length : Int) > 0) then (⟨l.held, l.queue ++ [lJoined l x]⟩, 110)
  else (⟨holdL l.held (lJoined l x), l.queue⟩, 0)
theorem eask_eq (l : Locks) (x : Lock) : lAsk l x = eAsk l x := by unfold lAsk eAsk; rw [echeck_eq, ewaits_eq, eahead_eq]
def eStep (s : Locks × List Int) (x : Lock) : Locks × List Int :=
  if decide (((eAhead s.1 x s.1.queue.length).length : Int) > 0) then (⟨s.1.held, s.1.queue ++ [x]⟩, s.2) else (⟨holdL s.1.held x, s.1.queue⟩, s.2 ++ [x.owner])
def eDropAll (l : Locks) (o : Int) : Locks × List Int := (rid o l.queue).foldl eStep (⟨rid o l.held, []⟩, [])
def eDrop (l : Locks) (o : Int) : Locks × List Int :=
  if !eCheck l || (decide (o < 0) || decide (o ≥ 4)) then (l, []) else ((eDropAll l o).1, isort (eDropAll l o).2)
theorem estep_eq : dropStep = eStep := by funext s x; unfold dropStep eStep; rw [eahead_eq]
theorem edrop_eq (l : Locks) (o : Int) : lDrop l o = eDrop l o := by unfold lDrop eDrop dropAll eDropAll; rw [echeck_eq, estep_eq, sortI_isort]
end Go.Proofs.Ve
