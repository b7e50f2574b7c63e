/- Plain laws: numbers in order, each once; locks that may be; whom somebody waits for. -/
import Derived.Test.YtpmhiiembbfbeaaP1
set_option linter.all false
namespace Go.Proofs.Ve
open Go
/-! ### numbers in order, each once -/
def ddF (last : Int) : List Int → List Int
  | [] => []
  | y :: ys => if y = last then ddF last ys else y :: ddF y ys
def dd : List Int → List Int
  | [] => []
  | x :: xs => x :: ddF x xs
def lastF (last : Int) : List Int → Int
  | [] => last
  | x :: l => lastF x l
theorem lastF_at : ∀ (l : List Int) (last : Int), (last :: l)[l.length]? = some (lastF last l)
  | [], last => rfl
  | x :: l, last => by
    have := lastF_at l x
    simpa [lastF] using this
theorem ddF_snoc (y : Int) : ∀ (l : List Int) (last : Int), ddF last (l ++ [y]) = ddF last l ++ if lastF last l = y then [] else [y]
  | [], last => by
    show (if y = last then [] else [y]) = [] ++ (if last = y then [] else [y])
    by_cases h : y = last
    · rw [if_pos h, if_pos h.symm]; rfl
    · rw [if_neg h, if_neg (fun e : last = y => h e.symm)]; rfl
  | x :: l, last => by
    rw [List.cons_append, ddF, ddF, lastF]
    by_cases h : x = last
    · subst h
      rw [if_pos rfl, if_pos rfl, ddF_snoc y l x]
    · rw [if_neg h, if_neg h, ddF_snoc y l x, List.cons_append]
theorem comp_dd (l : List Int) : compI l = dd l := by
  have key : ∀ m, m ≤ l.length → Lib.compactUpTo l.toArray m = dd (l.take m) := by
    intro m
    induction m with
    | zero => intro _; simp [Lib.compactUpTo, dd]
    | succ m ih =>
      intro hm
      have hlt : m < l.length := by omega
      rw [Lib.compactUpTo_succ, ih (by omega)]
      have hx : l[m]? = some l[m] := List.getElem?_eq_getElem hlt
      rw [take_snoc' hx]
      have hg : l.toArray[m]! = l[m] := by simp [hlt]
      rw [hg]
      cases m with
      | zero => simp [Lib.keeps, dd, ddF]
      | succ m =>
        have hlt' : m < l.length := by omega
        have hg' : l.toArray[m + 1 - 1]! = l[m] := by simp [hlt']
        cases hT : l.take (m + 1) with
        | nil =>
          exfalso
          have := congrArg List.length hT
          rw [List.length_take, List.length_nil] at this
          omega
        | cons x xs =>
          have hxl : xs.length = m := by
            have := congrArg List.length hT
            rw [List.length_take, List.length_cons] at this
            omega
          have hlast : lastF x xs = l[m] := by
            have h1 := lastF_at xs x
            rw [hxl, ← hT, List.getElem?_take_of_lt (by omega), List.getElem?_eq_getElem hlt'] at h1
            exact (Option.some.inj h1).symm
          rw [List.cons_append]
          simp only [dd]
          rw [ddF_snoc, hlast, List.cons_append]
          congr 1
          congr 1
          unfold Lib.keeps
          rw [hg, hg']
          by_cases h : l[m] = l[m + 1]
          · simp [h]
          · have h' : ¬ l[m + 1] = l[m] := fun e => h e.symm
            simp [h, h']
  have := key l.length (Nat.le_refl _)
  rw [List.take_length] at this
  exact this
def Asc (l : List Int) : Prop := l.Pairwise (· < ·)
theorem asc_eq : ∀ {a b : List Int}, Asc a → Asc b → (∀ x, x ∈ a ↔ x ∈ b) → a = b
  | [], [], _, _, _ => rfl
  | [], y :: b, _, _, h => by have := (h y).2 List.mem_cons_self; cases this
  | x :: a, [], _, _, h => by have := (h x).1 List.mem_cons_self; cases this
  | x :: a, y :: b, ha, hb, h => by
    unfold Asc at ha hb
    rw [List.pairwise_cons] at ha hb
    have h1 : x = y := by
      have h2 := (h x).1 List.mem_cons_self
      have h3 := (h y).2 List.mem_cons_self
      rw [List.mem_cons] at h2 h3
      rcases h2 with h2 | h2
      · exact h2
      · rcases h3 with h3 | h3
        · exact h3.symm
        · have := ha.1 y h3; have := hb.1 x h2; omega
    subst h1
    congr 1
    refine asc_eq ha.2 hb.2 fun z => ?_
    have hz := h z
    rw [List.mem_cons, List.mem_cons] at hz
    constructor
    · intro hza
      rcases hz.1 (.inr hza) with rfl | h'
      · have := ha.1 z hza; omega
      · exact h'
    · intro hzb
      rcases hz.2 (.inr hzb) with rfl | h'
      · have := hb.1 z hzb; omega
      · exact h'
theorem ddF_mem : ∀ (l : List Int) (last x : Int), x ∈ ddF last l → x ∈ l
  | [], last, x, h => by cases h
  | y :: l, last, x, h => by
    rw [ddF] at h
    split at h
    · exact List.mem_cons_of_mem _ (ddF_mem l last x h)
    · rw [List.mem_cons] at h ⊢
      exact h.imp id (ddF_mem l y x)
theorem ddF_all : ∀ (l : List Int) (last x : Int), x ∈ l → x = last ∨ x ∈ ddF last l
  | [], last, x, h => by cases h
  | y :: l, last, x, h => by
    rw [ddF]
    rw [List.mem_cons] at h
    split
    · rename_i he
      rcases h with h | h
      · exact .inl (h.trans he)
      · exact ddF_all l last x h
    · rw [List.mem_cons]
      rcases h with h | h
      · exact .inr (.inl h)
      · exact .inr (ddF_all l y x h)
theorem ddF_asc : ∀ (l : List Int) (last : Int), (last :: l).Pairwise (· ≤ ·) → Asc (last :: ddF last l)
  | [], last, _ => by simp [Asc, ddF]
  | y :: l, last, h => by
    rw [List.pairwise_cons] at h
    rw [ddF]
    split
    · rename_i he
      subst he
      exact ddF_asc l y h.2
    · rename_i hne
      have h1 := ddF_asc l y h.2
      unfold Asc at h1 ⊢
      refine List.pairwise_cons.2 ⟨fun z hz => ?_, h1⟩
      have hly := h.1 y List.mem_cons_self
      rw [List.mem_cons] at hz
      rcases hz with rfl | hz
      · omega
      · have := (List.pairwise_cons.1 h1).1 z hz; omega
theorem dd_mem (l : List Int) (x : Int) : x ∈ dd l ↔ x ∈ l := by
  cases l with
  | nil => simp [dd]
  | cons y l =>
    rw [dd, List.mem_cons, List.mem_cons]
    constructor
    · rintro (h | h)
      · exact .inl h
      · exact .inr (ddF_mem l y x h)
    · rintro (h | h)
      · exact .inl h
      · exact ddF_all l y x h
theorem dd_asc {l : List Int} (h : l.Pairwise (· ≤ ·)) : Asc (dd l) := by
  cases l with
  | nil => exact List.Pairwise.nil
  | cons y l => exact ddF_asc l y h
theorem sortI_sorted (l : List Int) : (sortI l).Pairwise (· ≤ ·) := by
  have := List.pairwise_mergeSort (le := fun x y : Int => decide (x ≤ y)) (fun a b c h1 h2 => by simp only [decide_eq_true_eq] at *; omega) (fun a b => by simp only [Bool.or_eq_true, decide_eq_true_eq]; omega) l
  exact this.imp fun {a b} h => by simpa using h
theorem sortI_mem (l : List Int) (x : Int) : x ∈ sortI l ↔ x ∈ l := (List.mergeSort_perm l _).mem_iff
def once (l : List Int) : List Int := compI (sortI l)
theorem once_mem (l : List Int) (x : Int) : x ∈ once l ↔ x ∈ l := by unfold once; rw [comp_dd, dd_mem, sortI_mem]
theorem once_asc (l : List Int) : Asc (once l) := by unfold once; rw [comp_dd]; exact dd_asc (sortI_sorted l)
theorem bitsL_mem : ∀ (bs : List Bool) (i x : Int), x ∈ bitsL bs i ↔ ∃ k : Nat, x = i + k ∧ bs[k]? = some true
  | [], i, x => by simp [bitsL]
  | b :: bs, i, x => by
    have ih := bitsL_mem bs (i + 1) x
    have e : (∃ k : Nat, x = i + k ∧ (b :: bs)[k]? = some true) ↔ (x = i ∧ b = true) ∨ ∃ k : Nat, x = i + 1 + k ∧ bs[k]? = some true := by
      constructor
      · rintro ⟨k, h1, h2⟩
        cases k with
        | zero => exact .inl ⟨by simpa using h1, by simpa using h2⟩
        | succ k => exact .inr ⟨k, by rw [h1]; simp; omega, by simpa using h2⟩
      · rintro (⟨h1, h2⟩ | ⟨k, h1, h2⟩)
        · exact ⟨0, by simpa using h1, by simpa using h2⟩
        · exact ⟨k + 1, by rw [h1]; simp; omega, by simpa using h2⟩
    rw [e]
    cases b with
    | true => rw [bitsL, cond_true, List.mem_cons, ih]; simp
    | false => rw [bitsL, cond_false, ih]; simp
theorem bitsL_asc : ∀ (bs : List Bool) (i : Int), Asc (bitsL bs i)
  | [], i => List.Pairwise.nil
  | b :: bs, i => by
    have ih := bitsL_asc bs (i + 1)
    cases b with
    | false => exact ih
    | true =>
      refine List.pairwise_cons.2 ⟨fun x hx => ?_, ih⟩
      obtain ⟨k, h, _⟩ := (bitsL_mem bs (i + 1) x).1 hx
      omega
/-! ### who is ahead -/
theorem ahead_eq (l : Locks) (x : Lock) (k : Nat) (h1 : ∀ y ∈ l.held, ownOk y) (h2 : ∀ y ∈ l.queue, ownOk y) : lAhead l x k = rAhead l x k := by
  have hL : ∀ y ∈ l.held ++ l.queue.take k, ownOk y := fun y hy => by
    rw [List.mem_append] at hy
    rcases hy with hy | hy
    · exact h1 y hy
    · exact h2 y (List.mem_of_mem_take hy)
  unfold lAhead rAhead
  generalize l.held ++ l.queue.take k = L at hL
  refine asc_eq (once_asc _) (bitsL_asc _ _) fun o => ?_
  have hany : ∀ o, anyB x L o = true ↔ ∃ y, y ∈ L ∧ rClash y x = true ∧ y.owner = o := fun o => by
    unfold anyB
    rw [List.any_eq_true]
    simp
  have e1 : o ∈ once (aheadOf x L) ↔ ∃ y, y ∈ L ∧ rClash y x = true ∧ y.owner = o := by
    rw [once_mem]
    unfold aheadOf
    simp only [List.mem_map, List.mem_filter, clash_eq, and_assoc]
  refine e1.trans (Iff.trans ?_ (bitsL_mem _ _ _).symm)
  rw [← hany]
  constructor
  · intro h
    obtain ⟨y, hy, _, ho⟩ := (hany o).1 h
    rcases hL y hy with h0 | h0 | h0 | h0 <;> rw [h0] at ho <;> subst ho
    · exact ⟨0, rfl, by simpa using h⟩
    · exact ⟨1, rfl, by simpa using h⟩
    · exact ⟨2, rfl, by simpa using h⟩
    · exact ⟨3, rfl, by simpa using h⟩
  · rintro ⟨k, rfl, h⟩
    match k, h with
    | 0, h => simpa using h
    | 1, h => simpa using h
    | 2, h => simpa using h
    | 3, h => simpa using h
    | k + 4, h => simp at h
/-! ### locks that may be -/
theorem single_any : ∀ (l pre : List Lock), rHeldF pre l = (l.all (fun x => rLMay x) && singleFrom pre l)
  | [], pre => rfl
  | x :: l, pre => by
    rw [rHeldF, singleFrom, single_any l, List.all_cons]
    have : pre.any (lTwice x) = pre.any (rTwice x) := by congr 1; funext y; exact twice_eq x y
    rw [this]
    cases rLMay x <;> cases pre.any (rTwice x) <;> simp
def newF (pre : List Lock) : List Lock → Bool
  | [] => true
  | x :: xs => !(pre.any fun y => y.owner == x.owner) && newF (pre ++ [x]) xs
theorem que_new : ∀ (l pre : List Lock), rQueF pre l = (l.all (fun x => rLMay x) && newF pre l)
  | [], pre => rfl
  | x :: l, pre => by
    rw [rQueF, newF, que_new l, List.all_cons]
    cases rLMay x <;> cases pre.any (fun y => y.owner == x.owner) <;> simp
theorem idxOf_app {α : Type} (p : α → Bool) : ∀ (a b : List α) (k : Int), idxOf p (a ++ b) k = if a.any p then idxOf p a k else idxOf p b (k + a.length)
  | [], b, k => by simp
  | x :: a, b, k => by
    rw [List.cons_append, idxOf, idxOf, idxOf_app p a b, List.any_cons]
    cases hx : p x with
    | true => simp
    | false =>
      simp only [cond_false, Bool.false_or, List.length_cons]
      split
      · rfl
      · congr 1; simp; omega
theorem idxOf_in {α : Type} (p : α → Bool) : ∀ (a : List α) (k : Int), a.any p = true → idxOf p a k < k + a.length
  | [], k, h => by cases h
  | x :: a, k, h => by
    rw [idxOf]
    cases hx : p x with
    | true => simp; omega
    | false =>
      rw [List.any_cons, hx, Bool.false_or] at h
      have := idxOf_in p a (k + 1) h
      simp only [cond_false, List.length_cons]
      push_cast
      omega
theorem place_new (pre : List Lock) (x : Lock) (l : List Lock) : (place (pre ++ x :: l) x.owner == (pre.length : Int)) = !(pre.any fun y => y.owner == x.owner) := by
  unfold place
  rw [idxOf_app]
  cases h : pre.any (fun y => y.owner == x.owner) with
  | true =>
    rw [if_pos rfl]
    have := idxOf_in (fun y : Lock => y.owner == x.owner) pre 0 h
    have hne : idxOf (fun y : Lock => y.owner == x.owner) pre 0 ≠ (pre.length : Int) := by omega
    simpa using hne
  | false => simp [idxOf]
theorem queue_eq (l : Locks) (h1 : ∀ y ∈ l.held, ownOk y) (h2 : ∀ y ∈ l.queue, ownOk y) : ∀ (xs pre : List Lock), l.queue = pre ++ xs →
    (lQ l xs pre.length && !xs.any fun x => l.held.any (lWeak x)) = (newF pre xs && rQ2 l xs pre.length)
  | [], pre, _ => rfl
  | x :: xs, pre, he => by
    have ih := queue_eq l h1 h2 xs (pre ++ [x]) (by simpa using he)
    rw [List.length_append, List.length_singleton] at ih
    have ha := ahead_eq l x pre.length h1 h2
    have hp : (place l.queue x.owner == (pre.length : Int)) = !(pre.any fun y => y.owner == x.owner) := by rw [he]; exact place_new pre x xs
    have hw : l.held.any (lWeak x) = l.held.any (rWeak x) := by congr 1; funext y; exact weak_eq x y
    rw [lQ, newF, rQ2, List.any_cons]
    unfold lQok
    rw [hp, ha, hw]
    have hl : decide (((rAhead l x pre.length).length : Int) > 0) = !(((rAhead l x pre.length).length : Int) == 0) := by
      cases (rAhead l x pre.length).length with
      | zero => rfl
      | succ n => simp; omega
    rw [hl]
    cases pre.any (fun y => y.owner == x.owner) <;> cases (((rAhead l x pre.length).length : Int) == 0) <;> cases l.held.any (rWeak x) <;> simp_all
theorem any_not {α : Type} (p : α → Bool) (l : List α) : (l.any fun x => !p x) = !l.all p := by
  induction l with
  | nil => rfl
  | cons x l ih => rw [List.any_cons, List.all_cons, ih]; cases p x <;> simp
theorem lcheck_eq (l : Locks) : lCheck l = rCheck l := by
  unfold lCheck rCheck
  rw [single_any, que_new, any_not, any_not]
  have e : ∀ (xs : List Lock), xs.all lMay = xs.all (fun x => rLMay x) := fun xs => by congr 1; funext x; exact lmay_eq x
  rw [e, e]
  cases ha : l.held.all (fun x => rLMay x) with
  | false => simp
  | true =>
    cases hb : l.queue.all (fun x => rLMay x) with
    | false => simp
    | true =>
      have h1 : ∀ y ∈ l.held, ownOk y := fun y hy => may_own (List.all_eq_true.1 ha y hy)
      have h2 : ∀ y ∈ l.queue, ownOk y := fun y hy => may_own (List.all_eq_true.1 hb y hy)
      have hq := queue_eq l h1 h2 l.queue [] rfl
      simp only [List.length_nil] at hq
      simp only [Bool.not_true, Bool.or_false, Bool.true_and]
      congr 1
      rw [Bool.and_left_comm, hq]
theorem lwaits_eq (l : Locks) (o : Int) : lWaits l o = rWaits l o := by unfold lWaits rWaits; rw [lcheck_eq]
theorem lblockers_eq (l : Locks) (o : Int) : lBlockers l o = rBlockers l o := by
  unfold lBlockers rBlockers
  rw [lwaits_eq]
  cases h : rWaits l o with
  | false => rfl
  | true =>
    have hc : rCheck l = true := by unfold rWaits at h; simp only [Bool.and_eq_true] at h; exact h.1
    obtain ⟨h1, h2⟩ := rCheck_own hc
    simp only [if_true]
    cases l.queue[(place l.queue o).toNat]? with
    | some y => exact ahead_eq l y _ h1 h2
    | none => rfl
theorem same_self : ∀ (l : List Int), sameFrom l l = true
  | [] => rfl
  | x :: l => by rw [sameFrom]; simp [same_self l]
theorem numbers_self (l : List Int) : numbers l l = true := by unfold numbers; simp [same_self]
end Go.Proofs.Ve
