/- TreeFinds, part 4 of 5. The engine and the contracts that the proof needs. -/
import Derived.Lib.Bytealg
import Derived.Laws.Strings
import Derived.Shelf.SlicesE.Delete
import Derived.Lib.RowBridge
import Derived.Test.YtingjgfoihjelaaTreeFindsJ1
import Derived.Test.YtingjgfoihjelaaTreeFindsJ2
import Derived.Test.YtingjgfoihjelaaTreeFindsJ3
/- Places; versions that may be; how deep a node is. -/
set_option maxRecDepth 100000
set_option maxHeartbeats 4000000
set_option linter.all false
namespace Go.Proofs.Ve
open Go
theorem d_place (n : Node) (k : List UInt8) (hl : n.keys.length < 1000000) (H : List (List Blk)) : CallEq X H 38 [pNode n, .d (encB k)] (.tuple [.d (.int .i64 (bs n.keys k)), .d (.bool (bsIs n.keys k))]) [] := by
  have h := fun H => d_bs n.keys k hl H
  refine callEq_of_body X_ok rfl Try.func38 rfl ?_
  conv => whnf
  repeat' (first
    | (refine And.intro (fun h_ => ?_) (fun h_ => ?_) <;> (conv => whnf))
    | (refine ⟨_, _, h _, (by first | exact True.intro | exact And.intro rfl flat_nil), ?_⟩; conv => whnf)
    | (intro z_ hz_; conv => whnf)
    | (refine ⟨[], rfl, ?_, True.intro⟩; (conv => whnf); (first | done | ((repeat' (first | exact True.intro | exact rfl | refine And.intro ?_ ?_)); done)))
    | fail)
def vMay (x : Ver) : Bool := ((decide (x.stamp ≥ 1) && decide (x.stamp ≤ 2147483647)) && decide ((x.val.length : Int) ≤ 32)) && (!x.gone || (x.val.length : Int) == 0)
theorem d_vmay (x : Ver) (H : List (List Blk)) : CallEq X H 56 [pVer x] (.d (.bool (vMay x))) [] := by
  unfold vMay
  refine callEq_of_body X_ok rfl Try.func56 rfl ?_
  conv => whnf
  repeat' (first
    | (refine And.intro (fun h_ => ?_) (fun h_ => ?_) <;> (conv => whnf))
    | (intro z_ hz_; conv => whnf)
    | (refine ⟨[], rfl, ?_, True.intro⟩; (conv => whnf); (first | done | (simp_all only [refP, Bool.not_true, Bool.not_false, Bool.true_and, Bool.false_and, Bool.and_true, Bool.and_false, Bool.true_or, Bool.false_or, Bool.or_true, Bool.or_false, Bool.not_not, Bool.not_eq_true', Bool.not_eq_false', if_true, if_false, Bool.false_eq_true, Bool.true_eq_false, List.length_map]; done)))
    | fail)
def vsF : Int → List Ver → Bool
  | _, [] => true
  | a, x :: xs => if !vMay x || decide (x.stamp ≤ a) then false else vsF x.stamp xs
def vsOk (l : List Ver) : Bool := vsF 0 l
theorem vsF_at {a : Int} {l : List Ver} {k : Nat} {x : Ver} (h : l[k]? = some x) : vsF a (l.drop k) = if !vMay x || decide (x.stamp ≤ a) then false else vsF x.stamp (l.drop (k + 1)) := by
  obtain ⟨hk, rfl⟩ := List.getElem?_eq_some_iff.1 h
  rw [List.drop_eq_getElem_cons hk]; rfl
theorem d_vscheck (l : List Ver) (hl : l.length < 1000000) (H : List (List Blk)) : CallEq X H 44 [.d (encVs l)] (.d (.bool (vsOk l))) [] := by
  refine callEq_of_body X_ok rfl Try.func44 rfl ?_
  conv => whnf
  refine loopV_of (fun i : Nat × Int => ⟨[.any, .any, .any, .d (.int .i64 i.2), .any, .any, .d (encVs l), .d (.int .i64 (l.map cVer).length), .d (.int .i64 i.1), .any, .any, .any, .any, .any, .any, .any, .any, .any, .any, .any, .any, .any, .any, .any], []⟩)
    (fun i => i.1 ≤ l.length ∧ vsOk l = vsF i.2 (l.drop i.1)) (fun i => l.length - i.1) (0, 0) [] ⟨Nat.zero_le _, rfl⟩ ?_ ?_
  · refine And.intro rfl (And.intro ?_ ?_)
    all_goals (repeat' (first | exact True.intro | exact rfl | refine And.intro ?_ ?_))
  · rintro ⟨k, a⟩ ⟨hk, hI⟩
    dsimp only at hk hI
    conv => whnf
    refine And.intro (fun h_ => ?_) (fun h_ => ?_)
    · conv => whnf
      have hk' : k < l.length := by simpa using h_
      obtain ⟨x, hx⟩ : ∃ x, l[k]? = some x := ⟨_, List.getElem?_eq_getElem hk'⟩
      have hst := vsF_at (a := a) hx
      have yes : (!vMay x || decide (x.stamp ≤ a)) = true → DV.bool false = .bool (vsOk l) := fun h => by rw [hI, hst, if_pos h]
      have no : (!vMay x || decide (x.stamp ≤ a)) = false → vsOk l = vsF x.stamp (l.drop (k + 1)) := fun h => by rw [hI, hst, if_neg (by simp [h])]
      have hm := fun H => d_vmay x H
      generalize vMay x = b at yes no hm
      refine ⟨by omega, cVer x, by show (l.map cVer)[((k : Nat) : Int).toNat]? = _; rw [Int.toNat_natCast, List.getElem?_map, hx]; rfl, rfl, ?_⟩
      conv => whnf
      refine ⟨_, _, hm _, True.intro, ?_⟩
      conv => whnf
      have nxt : (!b || decide (x.stamp ≤ a)) = false → ((k + 1, x.stamp).1 ≤ l.length ∧ vsOk l = vsF (k + 1, x.stamp).2 (l.drop (k + 1, x.stamp).1)) := fun h => ⟨hk', no h⟩
      repeat' (first
        | (refine And.intro (fun h3 => ?_) (fun h3 => ?_) <;> (conv => whnf))
        | (refine ⟨[], rfl, yes (by simp_all), True.intro⟩; done)
        | (intro z hz; conv => whnf
           rw [wrap_small (by omega) (by omega)] at hz
           subst hz
           refine ⟨(k + 1, x.stamp), [], nxt (by simp_all), by show l.length - (k + 1) < l.length - k; omega, And.intro rfl (And.intro ?_ ?_)⟩
           all_goals (repeat' (first | exact True.intro | exact rfl | refine And.intro ?_ ?_))
           done)
        | fail)
    · conv => whnf
      have hk' : k = l.length := by simp at h_; omega
      refine ⟨[], rfl, ?_, True.intro⟩
      show DV.bool true = .bool (vsOk l)
      rw [hI, hk', List.drop_length]; rfl
/-! ### nodes of some size -/
def nOk : Nat → Node → Prop
  | 0, _ => False
  | d + 1, n => n.keys.length < 100000 ∧ n.chains.length < 100000 ∧ n.kids.length < 100000 ∧ (∀ x ∈ n.keys, x.length ≤ 1000000) ∧ (∀ y ∈ n.chains, y.length < 100000 ∧ ∀ v ∈ y, v.val.length ≤ 1000000) ∧ ∀ x ∈ n.kids, nOk d x
theorem nOk_pos {d : Nat} {n : Node} (h : nOk d n) : ∃ e, d = e + 1 := by
  cases d with
  | zero => exact h.elim
  | succ e => exact ⟨e, rfl⟩
theorem nOk_keys {d : Nat} {n : Node} (h : nOk d n) : n.keys.length < 100000 := by obtain ⟨e, rfl⟩ := nOk_pos h; exact h.1
theorem nOk_chains {d : Nat} {n : Node} (h : nOk d n) : n.chains.length < 100000 := by obtain ⟨e, rfl⟩ := nOk_pos h; exact h.2.1
theorem nOk_kids {d : Nat} {n : Node} (h : nOk d n) : n.kids.length < 100000 := by obtain ⟨e, rfl⟩ := nOk_pos h; exact h.2.2.1
theorem nOk_key {d : Nat} {n : Node} (h : nOk d n) : ∀ x ∈ n.keys, x.length ≤ 1000000 := by obtain ⟨e, rfl⟩ := nOk_pos h; exact h.2.2.2.1
theorem nOk_chain {d : Nat} {n : Node} (h : nOk d n) : ∀ y ∈ n.chains, y.length < 100000 ∧ ∀ v ∈ y, v.val.length ≤ 1000000 := by obtain ⟨e, rfl⟩ := nOk_pos h; exact h.2.2.2.2.1
theorem nOk_kid {d : Nat} {n : Node} (h : nOk (d + 1) n) : ∀ x ∈ n.kids, nOk d x := h.2.2.2.2.2
/-! ### how deep -/
mutual
def deepN : Node → Int → Int
  | .mk k c ns, least =>
    if (c.length : Int) != k.length || (decide ((k.length : Int) > 3) || decide ((k.length : Int) < least)) then 0
    else match deepNs ns with
      | [] => 1
      | d :: ds => if (ns.length : Int) != k.length + 1 || (k.length : Int) == 0 then 0 else if ds.any (fun x => x != d) then 0 else if d == 0 then 0 else d + 1
def deepNs : List Node → List Int
  | [] => []
  | n :: ns => deepN n 1 :: deepNs ns
end
theorem deepNs_eq : ∀ ns, deepNs ns = ns.map (deepN · 1)
  | [] => by simp [deepNs]
  | n :: ns => by simp [deepNs, deepNs_eq ns]
theorem deepN_eq (n : Node) (least : Int) : deepN n least = if (n.chains.length : Int) != n.keys.length || (decide ((n.keys.length : Int) > 3) || decide ((n.keys.length : Int) < least)) then 0
    else match n.kids.map (deepN · 1) with
      | [] => 1
      | d :: ds => if (n.kids.length : Int) != n.keys.length + 1 || (n.keys.length : Int) == 0 then 0 else if ds.any (fun x => x != d) then 0 else if d == 0 then 0 else d + 1 := by
  cases n with
  | mk k c ns => rw [deepN, deepNs_eq]; rfl
theorem any_tk {α : Type} {p : α → Bool} {l : List α} {k : Nat} {x : α} (h : l[k]? = some x) : (l.drop k).any p = (p x || (l.drop (k + 1)).any p) := by
  have hk := (List.getElem?_eq_some_iff.1 h).1
  rw [List.drop_eq_getElem_cons hk, (List.getElem?_eq_some_iff.1 h).2, List.any_cons]
theorem deepN_le : ∀ (d : Nat) (n : Node) (least : Int), nOk d n → 0 ≤ deepN n least ∧ deepN n least ≤ d
  | 0, n, least, h => h.elim
  | d + 1, n, least, h => by
    have ih := fun x hx => deepN_le d x 1 (nOk_kid h x hx)
    rw [deepN_eq]
    split
    · omega
    · cases hk : n.kids with
      | nil => simp only [List.map_nil]; omega
      | cons x xs =>
        have := ih x (by rw [hk]; exact List.mem_cons_self ..)
        simp only [List.map_cons]
        split
        · omega
        · split
          · omega
          · split
            · omega
            · obtain ⟨h1, h2⟩ := this
              refine ⟨?_, ?_⟩
              · show 0 ≤ deepN x 1 + 1; omega
              · show deepN x 1 + 1 ≤ ((d + 1 : Nat) : Int); omega
theorem d_deep : ∀ (d : Nat) (n : Node) (least : Int) (H : List (List Blk)), d < 1000000 → nOk d n → CallEq X H 42 [pNode n, .d (.int .i64 least)] (.d (.int .i64 (deepN n least))) [] := by
  intro m
  induction m with
  | zero => intro n least H _ h; exact h.elim
  | succ m ih =>
    intro n least H hm hn
    have b1 := nOk_keys hn
    have b2 := nOk_chains hn
    have b3 := nOk_kids hn
    have hkid : ∀ x ∈ n.kids, ∀ H, CallEq X H 42 [pNode x, .d (.int .i64 1)] (.d (.int .i64 (deepN x 1))) [] := fun x hx H => ih x 1 H (by omega) (nOk_kid hn x hx)
    have hleaf := fun H => d_leaf n H
    have heq := deepN_eq n least
    generalize deepN n least = R at heq ⊢
    refine callEq_of_body X_ok rfl Try.func42 rfl ?_
    conv => whnf
    have bad : ((n.chains.length : Int) != n.keys.length || (decide ((n.keys.length : Int) > 3) || decide ((n.keys.length : Int) < least))) = true → DV.int .i64 0 = .int .i64 R := fun h => by rw [heq, if_pos h]
    repeat' (first
      | (refine And.intro (fun h3 => ?_) (fun h3 => ?_) <;> (conv => whnf))
      | (refine ⟨[], rfl, bad (by simp_all), True.intro⟩; done)
      | fail)
    have ok1 : ((n.chains.length : Int) != n.keys.length || (decide ((n.keys.length : Int) > 3) || decide ((n.keys.length : Int) < least))) = false := by simp_all
    rw [if_neg (by simp [ok1])] at heq
    refine ⟨_, _, hleaf _, True.intro, ?_⟩
    conv => whnf
    refine And.intro (fun q1 => ?_) (fun q1 => ?_) <;> (conv => whnf)
    · have hk : n.kids = [] := by
        unfold leafN at q1
        simpa using q1
      rw [hk] at heq
      refine ⟨[], rfl, ?_, True.intro⟩
      show DV.int .i64 1 = .int .i64 R
      rw [heq]; rfl
    · obtain ⟨x0, xs, hk⟩ : ∃ x0 xs, n.kids = x0 :: xs := by
        cases hk : n.kids with
        | nil => unfold leafN at q1; rw [hk] at q1; cases q1
        | cons x0 xs => exact ⟨x0, xs, rfl⟩
      have heq : R = if (n.kids.length : Int) != n.keys.length + 1 || (n.keys.length : Int) == 0 then 0 else if (xs.map (deepN · 1)).any (fun x => x != deepN x0 1) then 0 else if deepN x0 1 == 0 then 0 else deepN x0 1 + 1 := by
        rw [heq, hk]; rfl
      intro z hz
      conv => whnf
      rw [wrap_small (by omega) (by simp only [List.length_map]; omega)] at hz
      subst hz
      have bad2 : ((n.kids.length : Int) != n.keys.length + 1 || (n.keys.length : Int) == 0) = true → DV.int .i64 0 = .int .i64 R := fun h => by rw [heq, if_pos h]
      repeat' (first
        | (refine And.intro (fun h4 => ?_) (fun h4 => ?_) <;> (conv => whnf))
        | (refine ⟨[], rfl, bad2 (by simp_all), True.intro⟩; done)
        | fail)
      have ok2 : ((n.kids.length : Int) != n.keys.length + 1 || (n.keys.length : Int) == 0) = false := by simp_all
      rw [if_neg (by simp [ok2])] at heq
      have hx0 := hkid x0 (by rw [hk]; exact List.mem_cons_self ..)
      have hlen : n.kids.length = xs.length + 1 := by rw [hk]; rfl
      have hd0 := deepN_le m x0 1 (nOk_kid hn x0 (by rw [hk]; exact List.mem_cons_self ..))
      refine ⟨by decide, [encKs x0.keys, encCs x0.chains, encNs x0.kids], by show (n.kids.map cNode)[0]? = _; rw [hk, List.map_cons, cNode_eq]; rfl, rfl, ?_⟩
      conv => whnf
      refine ⟨_, _, hx0 _, True.intro, ?_⟩
      conv => whnf
      generalize deepN x0 1 = d at heq hd0
      have len3 : ∀ y ∈ n.kids.map cNode, y.length = 3 := fun y hy => by simp only [List.mem_map] at hy; obtain ⟨w, _, rfl⟩ := hy; rw [cNode_eq]; rfl
      refine ⟨len3, by decide, by show (1 : Int) ≤ ((n.kids.map cNode).length : Int); rw [List.length_map]; omega, ?_⟩
      conv => whnf
      have hdr : List.drop (1 : Int).toNat (n.kids.map cNode) = xs.map cNode := by rw [hk]; rfl
      rw [hdr]
      refine loopV_of (fun j : Nat => ⟨[.any, .any, .ptr 0 0 0, .any, .any, .d (.int .i64 d), .any, .any, .any, .any, .any, .any, .any, .any, .any, .any, .any, .any, .any, .any, .any, .any, .any, .any, .any, .any, .any, .any, .any, .any, .any, .any, .any, .any, .any, .any, .any, .any, .any, .any, .any, .any, .any, .any, .any, .any, .any, .any, .any, .any, .any, .d (.sl (xs.map cNode)), .d (.int .i64 (xs.map cNode).length), .d (.int .i64 j), .any, .any, .any, .any, .any, .any, .any, .any, .any, .any, .any, .any], [bNode n]⟩)
        (fun j => j ≤ xs.length ∧ (xs.map (deepN · 1)).any (fun x => x != d) = ((xs.map (deepN · 1)).drop j).any (fun x => x != d)) (fun j => xs.length - j) 0 [0] ⟨Nat.zero_le _, rfl⟩ ?_ ?_
      · refine And.intro rfl (And.intro ?_ ?_)
        all_goals (repeat' (first | exact True.intro | exact rfl | refine And.intro ?_ ?_))
      · rintro j ⟨hj, hI⟩
        conv => whnf
        refine And.intro (fun q2 => ?_) (fun q2 => ?_)
        · conv => whnf
          have hj' : j < xs.length := by simpa using q2
          obtain ⟨y, hy⟩ : ∃ y, xs[j]? = some y := ⟨_, List.getElem?_eq_getElem hj'⟩
          have hst := any_tk (p := fun x => x != d) (l := xs.map (deepN · 1)) (k := j) (x := deepN y 1) (by rw [List.getElem?_map, hy]; rfl)
          have hy1 := hkid y (by rw [hk]; exact List.mem_cons_of_mem _ (List.mem_of_getElem? hy))
          generalize deepN y 1 = e at hst hy1
          refine ⟨by omega, [encKs y.keys, encCs y.chains, encNs y.kids], by show (xs.map cNode)[((j : Nat) : Int).toNat]? = _; rw [Int.toNat_natCast, List.getElem?_map, hy, Option.map_some, cNode_eq], rfl, ?_⟩
          conv => whnf
          refine ⟨_, _, hy1 _, True.intro, ?_⟩
          conv => whnf
          refine And.intro (fun q3 => ?_) (fun q3 => ?_) <;> (conv => whnf)
          · refine ⟨[], rfl, ?_, True.intro⟩
            show DV.int .i64 0 = .int .i64 R
            rw [heq, if_pos (by rw [hI, hst, q3]; rfl)]
          · intro z hz
            conv => whnf
            rw [wrap_small (by omega) (by omega)] at hz
            subst hz
            refine ⟨j + 1, [0], ⟨hj', by rw [hI, hst, q3]; rfl⟩, by omega, And.intro rfl (And.intro ?_ ?_)⟩
            all_goals (repeat' (first | exact True.intro | exact rfl | refine And.intro ?_ ?_))
        · conv => whnf
          have hj' : j = xs.length := by simp at q2; omega
          have hno : (xs.map (deepN · 1)).any (fun x => x != d) = false := by rw [hI, hj', List.drop_eq_nil_of_le (by simp)]; rfl
          rw [hno] at heq
          refine And.intro (fun q3 => ?_) (fun q3 => ?_) <;> (conv => whnf)
          · refine ⟨[], rfl, ?_, True.intro⟩
            show DV.int .i64 0 = .int .i64 R
            rw [heq, if_neg (by simp), if_pos q3]
          · intro z hz
            conv => whnf
            rw [wrap_small (by omega) (by omega)] at hz
            subst hz
            refine ⟨[], rfl, ?_, True.intro⟩
            show DV.int .i64 (d + 1) = .int .i64 R
            rw [heq, if_neg (by simp), if_neg (by simp [q3])]
end Go.Proofs.Ve

/- All of a node's keys, in order: an iterator. -/
set_option maxRecDepth 100000
set_option maxHeartbeats 8000000
set_option linter.all false
namespace Go.Proofs.Ve
open Go
noncomputable def mo55 : List (Nat × Tr) := [(12, (.alt 1 (.alt 3 (.alt 6 (.alt 8 (.alt 0 (.alt 2 (.alt 4 (.alt 5 (.alt 7 (.alt 9 (.alt 10 (.alt 11 (.alt 12 .fin .none) .none) .none) .none) .none) (.alt 7 (.alt 5 (.alt 9 (.alt 10 (.alt 11 (.alt 12 .fin .none) .none) .none) .none) (.alt 9 (.alt 5 (.alt 10 (.alt 11 (.alt 12 .fin .none) .none) .none) (.alt 10 (.alt 5 (.alt 11 (.alt 12 .fin .none) .none) .none) .none)) .none)) .none)) (.alt 7 (.alt 4 (.alt 5 (.alt 9 (.alt 10 (.alt 11 (.alt 12 .fin .none) .none) .none) .none) (.alt 9 (.alt 5 (.alt 10 (.alt 11 (.alt 12 .fin .none) .none) .none) (.alt 10 (.alt 5 (.alt 11 (.alt 12 .fin .none) .none) .none) .none)) .none)) (.alt 9 (.alt 4 (.alt 5 (.alt 10 (.alt 11 (.alt 12 .fin .none) .none) .none) (.alt 10 (.alt 5 (.alt 11 (.alt 12 .fin .none) .none) .none) .none)) (.alt 10 (.alt 4 (.alt 5 (.alt 11 (.alt 12 .fin .none) .none) .none) .none) .none)) .none)) .none)) (.alt 7 (.alt 2 (.alt 4 (.alt 5 (.alt 9 (.alt 10 (.alt 11 (.alt 12 .fin .none) .none) .none) .none) (.alt 9 (.alt 5 (.alt 10 (.alt 11 (.alt 12 .fin .none) .none) .none) (.alt 10 (.alt 5 (.alt 11 (.alt 12 .fin .none) .none) .none) .none)) .none)) (.alt 9 (.alt 4 (.alt 5 (.alt 10 (.alt 11 (.alt 12 .fin .none) .none) .none) (.alt 10 (.alt 5 (.alt 11 (.alt 12 .fin .none) .none) .none) .none)) (.alt 10 (.alt 4 (.alt 5 (.alt 11 (.alt 12 .fin .none) .none) .none) .none) .none)) .none)) (.alt 9 (.alt 2 (.alt 4 (.alt 5 (.alt 10 (.alt 11 (.alt 12 .fin .none) .none) .none) (.alt 10 (.alt 5 (.alt 11 (.alt 12 .fin .none) .none) .none) .none)) (.alt 10 (.alt 4 (.alt 5 (.alt 11 (.alt 12 .fin .none) .none) .none) .none) .none)) (.alt 10 (.alt 2 (.alt 4 (.alt 5 (.alt 11 (.alt 12 .fin .none) .none) .none) .none) .none) .none)) .none)) .none)) (.alt 2 (.alt 0 (.alt 4 (.alt 5 (.alt 7 (.alt 9 (.alt 10 (.alt 11 (.alt 12 .fin .none) .none) .none) .none) .none) (.alt 7 (.alt 5 (.alt 9 (.alt 10 (.alt 11 (.alt 12 .fin .none) .none) .none) .none) (.alt 9 (.alt 5 (.alt 10 (.alt 11 (.alt 12 .fin .none) .none) .none) (.alt 10 (.alt 5 (.alt 11 (.alt 12 .fin .none) .none) .none) .none)) .none)) .none)) (.alt 7 (.alt 4 (.alt 5 (.alt 9 (.alt 10 (.alt 11 (.alt 12 .fin .none) .none) .none) .none) (.alt 9 (.alt 5 (.alt 10 (.alt 11 (.alt 12 .fin .none) .none) .none) (.alt 10 (.alt 5 (.alt 11 (.alt 12 .fin .none) .none) .none) .none)) .none)) (.alt 9 (.alt 4 (.alt 5 (.alt 10 (.alt 11 (.alt 12 .fin .none) .none) .none) (.alt 10 (.alt 5 (.alt 11 (.alt 12 .fin .none) .none) .none) .none)) (.alt 10 (.alt 4 (.alt 5 (.alt 11 (.alt 12 .fin .none) .none) .none) .none) .none)) .none)) .none)) (.alt 4 (.alt 0 (.alt 5 (.alt 7 (.alt 9 (.alt 10 (.alt 11 (.alt 12 .fin .none) .none) .none) .none) .none) (.alt 7 (.alt 5 (.alt 9 (.alt 10 (.alt 11 (.alt 12 .fin .none) .none) .none) .none) (.alt 9 (.alt 5 (.alt 10 (.alt 11 (.alt 12 .fin .none) .none) .none) (.alt 10 (.alt 5 (.alt 11 (.alt 12 .fin .none) .none) .none) .none)) .none)) .none)) (.alt 5 (.alt 0 (.alt 7 (.alt 9 (.alt 10 (.alt 11 (.alt 12 .fin .none) .none) .none) .none) .none) (.alt 7 (.alt 0 (.alt 9 (.alt 10 (.alt 11 (.alt 12 .fin .none) .none) .none) .none) (.alt 9 (.alt 0 (.alt 10 (.alt 11 (.alt 12 .fin .none) .none) .none) (.alt 10 (.alt 0 (.alt 11 (.alt 12 .fin .none) .none) .none) .none)) .none)) .none)) (.alt 7 (.alt 0 (.alt 5 (.alt 9 (.alt 10 (.alt 11 (.alt 12 .fin .none) .none) .none) .none) (.alt 9 (.alt 5 (.alt 10 (.alt 11 (.alt 12 .fin .none) .none) .none) (.alt 10 (.alt 5 (.alt 11 (.alt 12 .fin .none) .none) .none) .none)) .none)) (.alt 5 (.alt 0 (.alt 9 (.alt 10 (.alt 11 (.alt 12 .fin .none) .none) .none) .none) (.alt 9 (.alt 0 (.alt 10 (.alt 11 (.alt 12 .fin .none) .none) .none) (.alt 10 (.alt 0 (.alt 11 (.alt 12 .fin .none) .none) .none) .none)) .none)) (.alt 9 (.alt 0 (.alt 5 (.alt 10 (.alt 11 (.alt 12 .fin .none) .none) .none) (.alt 10 (.alt 5 (.alt 11 (.alt 12 .fin .none) .none) .none) .none)) (.alt 5 (.alt 0 (.alt 10 (.alt 11 (.alt 12 .fin .none) .none) .none) (.alt 10 (.alt 0 (.alt 11 (.alt 12 .fin .none) .none) .none) .none)) (.alt 10 (.alt 0 (.alt 5 (.alt 11 (.alt 12 .fin .none) .none) .none) (.alt 5 (.alt 0 (.alt 11 (.alt 12 .fin .none) .none) .none) .none)) .none))) .none))) .none))) (.alt 7 (.alt 0 (.alt 4 (.alt 5 (.alt 9 (.alt 10 (.alt 11 (.alt 12 .fin .none) .none) .none) .none) (.alt 9 (.alt 5 (.alt 10 (.alt 11 (.alt 12 .fin .none) .none) .none) (.alt 10 (.alt 5 (.alt 11 (.alt 12 .fin .none) .none) .none) .none)) .none)) (.alt 9 (.alt 4 (.alt 5 (.alt 10 (.alt 11 (.alt 12 .fin .none) .none) .none) (.alt 10 (.alt 5 (.alt 11 (.alt 12 .fin .none) .none) .none) .none)) (.alt 10 (.alt 4 (.alt 5 (.alt 11 (.alt 12 .fin .none) .none) .none) .none) .none)) .none)) (.alt 4 (.alt 0 (.alt 5 (.alt 9 (.alt 10 (.alt 11 (.alt 12 .fin .none) .none) .none) .none) (.alt 9 (.alt 5 (.alt 10 (.alt 11 (.alt 12 .fin .none) .none) .none) (.alt 10 (.alt 5 (.alt 11 (.alt 12 .fin .none) .none) .none) .none)) .none)) (.alt 5 (.alt 0 (.alt 9 (.alt 10 (.alt 11 (.alt 12 .fin .none) .none) .none) .none) (.alt 9 (.alt 0 (.alt 10 (.alt 11 (.alt 12 .fin .none) .none) .none) (.alt 10 (.alt 0 (.alt 11 (.alt 12 .fin .none) .none) .none) .none)) .none)) (.alt 9 (.alt 0 (.alt 5 (.alt 10 (.alt 11 (.alt 12 .fin .none) .none) .none) (.alt 10 (.alt 5 (.alt 11 (.alt 12 .fin .none) .none) .none) .none)) (.alt 5 (.alt 0 (.alt 10 (.alt 11 (.alt 12 .fin .none) .none) .none) (.alt 10 (.alt 0 (.alt 11 (.alt 12 .fin .none) .none) .none) .none)) (.alt 10 (.alt 0 (.alt 5 (.alt 11 (.alt 12 .fin .none) .none) .none) (.alt 5 (.alt 0 (.alt 11 (.alt 12 .fin .none) .none) .none) .none)) .none))) .none))) (.alt 9 (.alt 0 (.alt 4 (.alt 5 (.alt 10 (.alt 11 (.alt 12 .fin .none) .none) .none) (.alt 10 (.alt 5 (.alt 11 (.alt 12 .fin .none) .none) .none) .none)) (.alt 10 (.alt 4 (.alt 5 (.alt 11 (.alt 12 .fin .none) .none) .none) .none) .none)) (.alt 4 (.alt 0 (.alt 5 (.alt 10 (.alt 11 (.alt 12 .fin .none) .none) .none) (.alt 10 (.alt 5 (.alt 11 (.alt 12 .fin .none) .none) .none) .none)) (.alt 5 (.alt 0 (.alt 10 (.alt 11 (.alt 12 .fin .none) .none) .none) (.alt 10 (.alt 0 (.alt 11 (.alt 12 .fin .none) .none) .none) .none)) (.alt 10 (.alt 0 (.alt 5 (.alt 11 (.alt 12 .fin .none) .none) .none) (.alt 5 (.alt 0 (.alt 11 (.alt 12 .fin .none) .none) .none) .none)) .none))) (.alt 10 (.alt 0 (.alt 4 (.alt 5 (.alt 11 (.alt 12 .fin .none) .none) .none) .none) (.alt 4 (.alt 0 (.alt 5 (.alt 11 (.alt 12 .fin .none) .none) .none) (.alt 5 (.alt 0 (.alt 11 (.alt 12 .fin .none) .none) .none) .none)) .none)) .none))) .none))) .none))) (.alt 7 (.alt 0 (.alt 2 (.alt 4 (.alt 5 (.alt 9 (.alt 10 (.alt 11 (.alt 12 .fin .none) .none) .none) .none) (.alt 9 (.alt 5 (.alt 10 (.alt 11 (.alt 12 .fin .none) .none) .none) (.alt 10 (.alt 5 (.alt 11 (.alt 12 .fin .none) .none) .none) .none)) .none)) (.alt 9 (.alt 4 (.alt 5 (.alt 10 (.alt 11 (.alt 12 .fin .none) .none) .none) (.alt 10 (.alt 5 (.alt 11 (.alt 12 .fin .none) .none) .none) .none)) (.alt 10 (.alt 4 (.alt 5 (.alt 11 (.alt 12 .fin .none) .none) .none) .none) .none)) .none)) (.alt 9 (.alt 2 (.alt 4 (.alt 5 (.alt 10 (.alt 11 (.alt 12 .fin .none) .none) .none) (.alt 10 (.alt 5 (.alt 11 (.alt 12 .fin .none) .none) .none) .none)) (.alt 10 (.alt 4 (.alt 5 (.alt 11 (.alt 12 .fin .none) .none) .none) .none) .none)) (.alt 10 (.alt 2 (.alt 4 (.alt 5 (.alt 11 (.alt 12 .fin .none) .none) .none) .none) .none) .none)) .none)) (.alt 2 (.alt 0 (.alt 4 (.alt 5 (.alt 9 (.alt 10 (.alt 11 (.alt 12 .fin .none) .none) .none) .none) (.alt 9 (.alt 5 (.alt 10 (.alt 11 (.alt 12 .fin .none) .none) .none) (.alt 10 (.alt 5 (.alt 11 (.alt 12 .fin .none) .none) .none) .none)) .none)) (.alt 9 (.alt 4 (.alt 5 (.alt 10 (.alt 11 (.alt 12 .fin .none) .none) .none) (.alt 10 (.alt 5 (.alt 11 (.alt 12 .fin .none) .none) .none) .none)) (.alt 10 (.alt 4 (.alt 5 (.alt 11 (.alt 12 .fin .none) .none) .none) .none) .none)) .none)) (.alt 4 (.alt 0 (.alt 5 (.alt 9 (.alt 10 (.alt 11 (.alt 12 .fin .none) .none) .none) .none) (.alt 9 (.alt 5 (.alt 10 (.alt 11 (.alt 12 .fin .none) .none) .none) (.alt 10 (.alt 5 (.alt 11 (.alt 12 .fin .none) .none) .none) .none)) .none)) (.alt 5 (.alt 0 (.alt 9 (.alt 10 (.alt 11 (.alt 12 .fin .none) .none) .none) .none) (.alt 9 (.alt 0 (.alt 10 (.alt 11 (.alt 12 .fin .none) .none) .none) (.alt 10 (.alt 0 (.alt 11 (.alt 12 .fin .none) .none) .none) .none)) .none)) (.alt 9 (.alt 0 (.alt 5 (.alt 10 (.alt 11 (.alt 12 .fin .none) .none) .none) (.alt 10 (.alt 5 (.alt 11 (.alt 12 .fin .none) .none) .none) .none)) (.alt 5 (.alt 0 (.alt 10 (.alt 11 (.alt 12 .fin .none) .none) .none) (.alt 10 (.alt 0 (.alt 11 (.alt 12 .fin .none) .none) .none) .none)) (.alt 10 (.alt 0 (.alt 5 (.alt 11 (.alt 12 .fin .none) .none) .none) (.alt 5 (.alt 0 (.alt 11 (.alt 12 .fin .none) .none) .none) .none)) .none))) .none))) (.alt 9 (.alt 0 (.alt 4 (.alt 5 (.alt 10 (.alt 11 (.alt 12 .fin .none) .none) .none) (.alt 10 (.alt 5 (.alt 11 (.alt 12 .fin .none) .none) .none) .none)) (.alt 10 (.alt 4 (.alt 5 (.alt 11 (.alt 12 .fin .none) .none) .none) .none) .none)) (.alt 4 (.alt 0 (.alt 5 (.alt 10 (.alt 11 (.alt 12 .fin .none) .none) .none) (.alt 10 (.alt 5 (.alt 11 (.alt 12 .fin .none) .none) .none) .none)) (.alt 5 (.alt 0 (.alt 10 (.alt 11 (.alt 12 .fin .none) .none) .none) (.alt 10 (.alt 0 (.alt 11 (.alt 12 .fin .none) .none) .none) .none)) (.alt 10 (.alt 0 (.alt 5 (.alt 11 (.alt 12 .fin .none) .none) .none) (.alt 5 (.alt 0 (.alt 11 (.alt 12 .fin .none) .none) .none) .none)) .none))) (.alt 10 (.alt 0 (.alt 4 (.alt 5 (.alt 11 (.alt 12 .fin .none) .none) .none) .none) (.alt 4 (.alt 0 (.alt 5 (.alt 11 (.alt 12 .fin .none) .none) .none) (.alt 5 (.alt 0 (.alt 11 (.alt 12 .fin .none) .none) .none) .none)) .none)) .none))) .none))) (.alt 9 (.alt 0 (.alt 2 (.alt 4 (.alt 5 (.alt 10 (.alt 11 (.alt 12 .fin .none) .none) .none) (.alt 10 (.alt 5 (.alt 11 (.alt 12 .fin .none) .none) .none) .none)) (.alt 10 (.alt 4 (.alt 5 (.alt 11 (.alt 12 .fin .none) .none) .none) .none) .none)) (.alt 10 (.alt 2 (.alt 4 (.alt 5 (.alt 11 (.alt 12 .fin .none) .none) .none) .none) .none) .none)) (.alt 2 (.alt 0 (.alt 4 (.alt 5 (.alt 10 (.alt 11 (.alt 12 .fin .none) .none) .none) (.alt 10 (.alt 5 (.alt 11 (.alt 12 .fin .none) .none) .none) .none)) (.alt 10 (.alt 4 (.alt 5 (.alt 11 (.alt 12 .fin .none) .none) .none) .none) .none)) (.alt 4 (.alt 0 (.alt 5 (.alt 10 (.alt 11 (.alt 12 .fin .none) .none) .none) (.alt 10 (.alt 5 (.alt 11 (.alt 12 .fin .none) .none) .none) .none)) (.alt 5 (.alt 0 (.alt 10 (.alt 11 (.alt 12 .fin .none) .none) .none) (.alt 10 (.alt 0 (.alt 11 (.alt 12 .fin .none) .none) .none) .none)) (.alt 10 (.alt 0 (.alt 5 (.alt 11 (.alt 12 .fin .none) .none) .none) (.alt 5 (.alt 0 (.alt 11 (.alt 12 .fin .none) .none) .none) .none)) .none))) (.alt 10 (.alt 0 (.alt 4 (.alt 5 (.alt 11 (.alt 12 .fin .none) .none) .none) .none) (.alt 4 (.alt 0 (.alt 5 (.alt 11 (.alt 12 .fin .none) .none) .none) (.alt 5 (.alt 0 (.alt 11 (.alt 12 .fin .none) .none) .none) .none)) .none)) .none))) (.alt 10 (.alt 0 (.alt 2 (.alt 4 (.alt 5 (.alt 11 (.alt 12 .fin .none) .none) .none) .none) .none) (.alt 2 (.alt 0 (.alt 4 (.alt 5 (.alt 11 (.alt 12 .fin .none) .none) .none) .none) (.alt 4 (.alt 0 (.alt 5 (.alt 11 (.alt 12 .fin .none) .none) .none) (.alt 5 (.alt 0 (.alt 11 (.alt 12 .fin .none) .none) .none) .none)) .none)) .none)) .none))) .none))) .none))) .none) .none) .none) .none))]
/-- what kid i has; what stands behind it -/
def kidP (f : Node → List (List UInt8 × List Ver)) (n : Node) (i : Nat) : List (List UInt8 × List Ver) := match n.kids[i]? with | some x => f x | none => []
def pairD (n : Node) (i : Nat) : List (List UInt8 × List Ver) := match n.keys[i]?, n.chains[i]? with | some k, some c => [(k, c)] | _, _ => []
/-- all of a node of so many floors -/
def allD : Nat → Node → List (List UInt8 × List Ver)
  | 0, _ => []
  | d + 1, n => (List.range (n.keys.length + 1)).flatMap fun i => kidP (allD d) n i ++ pairD n i
def kidD (d : Nat) (n : Node) (i : Nat) : List (List UInt8 × List Ver) := kidP (allD d) n i
def segD (d : Nat) (n : Node) (i : Nat) : List (List UInt8 × List Ver) := kidD d n i ++ pairD n i
def posD (d : Nat) (n : Node) (i : Nat) : Nat := ((List.range i).flatMap (segD d n)).length
theorem posD_succ (d : Nat) (n : Node) (i : Nat) : posD d n (i + 1) = posD d n i + (segD d n i).length := by
  unfold posD; rw [List.range_succ]; simp
theorem flat_get {α : Type} {f : Nat → List α} : ∀ (m i j : Nat) (x : α), i < m → (f i)[j]? = some x → ((List.range m).flatMap f)[((List.range i).flatMap f).length + j]? = some x
  | 0, i, j, x, h, _ => by omega
  | m + 1, i, j, x, h, hx => by
    rw [List.range_succ, List.flatMap_append]
    have hj := (List.getElem?_eq_some_iff.1 hx).1
    rcases Nat.lt_or_ge i m with h1 | h1
    · have := flat_get m i j x h1 hx
      rw [List.getElem?_append_left (List.getElem?_eq_some_iff.1 this).1]; exact this
    · have e : i = m := by omega
      subst e
      rw [List.getElem?_append_right (by omega)]
      simpa using hx
def allY (d : Nat) (n : Node) : List (List YV) := (allD d n).map fun p => [.one (encB p.1), .one (encVs p.2)]
theorem ally_get {d : Nat} {n : Node} {i j : Nat} {p : List UInt8 × List Ver} (h : i ≤ n.keys.length) (hx : (segD d n i)[j]? = some p) : (allY (d + 1) n)[posD d n i + j]? = some [.one (encB p.1), .one (encVs p.2)] := by
  unfold allY
  rw [List.getElem?_map]
  have := flat_get (f := segD d n) (n.keys.length + 1) i j p (by omega) hx
  rw [show allD (d + 1) n = (List.range (n.keys.length + 1)).flatMap (segD d n) from rfl]
  rw [show ((List.range (n.keys.length + 1)).flatMap (segD d n))[posD d n i + j]? = some p from this]; rfl
theorem ally_len (d : Nat) (n : Node) : (allY (d + 1) n).length = posD d n (n.keys.length + 1) := by unfold allY posD; rw [List.length_map]; rfl
def allG (n : Node) : List RowB := [⟨0, 0, [[encKs n.keys, encCs n.chains, encNs n.kids]]⟩]
theorem d_all (n : Node) (H : List (List Blk)) : CallEq X H 43 [pNode n] (.func (.func 55) [] [.ptr 0 0 0]) (allG n) := by
  refine callEq_of_body X_ok rfl Try.func43 rfl ?_
  conv => whnf
  refine ⟨[0], rfl, ?_, ?_⟩
  all_goals (repeat' (first | exact True.intro | exact rfl | refine And.intro ?_ ?_))
theorem i_all : ∀ (d : Nat) (n : Node), d < 1000000 → nOk d n → IterEq X 55 (allG n) [.ptr 0 0 0] (allY d n) := by
  intro d
  induction d with
  | zero => intro n _ h; exact h.elim
  | succ d ih =>
    intro n hd hn
    have b1 := nOk_keys hn
    have b2 := nOk_chains hn
    have b3 := nOk_kids hn
    refine iterEq_of_bodyM X_ok (mo := mo55) (by kernel_rfl) Try.func55 rfl rfl ?_
    intro Y hP hxs
    have hy0 : ∀ {k : Nat} {x : List YV}, (allY (d + 1) n)[k]? = some x → (allY (d + 1) n)[k]? = some x := fun h => h
    conv => whnf
    refine loopV_of (fun s : Nat × Bool => ⟨[.any, .ptr 0 0 0, .ptr 0 2 0, .ptr 0 3 0, .d (.int .i64 s.1), .any, .any, .any, .any, .any, .any, .any, .any, .any, .any, .any, .any, .any, .any, .any, .any, .any, .any, .any, .any, .any, .any, .any, .any, .any, .any, .any, .any, .any, .any, .any, .any, .any, .any, .any, .any, .any, .any, .any, .any, .any, .any, .any, .any, .any, .any, .any, .any, .any, .any, .any, .any, .any, .any, .any, .any, .any, .any], [bNode n, .gen Y (bif s.2 then some (posD d n s.1) else none), .box [.yld Y], .box [.kb s.2]]⟩)
      (fun s => s.1 ≤ n.keys.length + 1) (fun s => n.keys.length + 1 - s.1) (0, true) [0, 1, 2, 3] (Nat.zero_le _) ?_ ?_
    · refine And.intro rfl (And.intro ?_ ?_)
      all_goals (repeat' (first | exact True.intro | exact rfl | refine And.intro ?_ ?_))
    · rintro ⟨i, g⟩ hi
      dsimp only at hi
      cases g with
      | false =>
        conv => whnf
        refine And.intro (fun q => ?_) (fun q => ?_) <;> (conv => whnf)
        all_goals exact ⟨rfl, True.intro⟩
      | true =>
        conv => whnf
        refine And.intro (fun q => ?_) (fun q => ?_) <;> (conv => whnf)
        rotate_left
        · have hi' : i = n.keys.length + 1 := by simp at q; omega
          subst hi'
          exact ⟨rfl, by show posD d n (n.keys.length + 1) = Y.xs.length; rw [hxs, ally_len]⟩
        · have hk : i ≤ n.keys.length := by simp at q; omega
          refine And.intro (fun q2 => ?_) (fun q2 => ?_) <;> (conv => whnf)
          · have hk2 : i < n.kids.length := by simpa using q2
            obtain ⟨x, hx⟩ : ∃ y, n.kids[i]? = some y := ⟨_, List.getElem?_eq_getElem hk2⟩
            have hkid : kidD d n i = allD d x := by unfold kidD kidP; rw [hx]
            have it := ih x (by omega) (nOk_kid hn x (List.mem_of_getElem? hx))
            refine ⟨by omega, [encKs x.keys, encCs x.chains, encNs x.kids], by show (n.kids.map cNode)[((i : Nat) : Int).toNat]? = _; rw [Int.toNat_natCast, List.getElem?_map, hx, Option.map_some, cNode_eq], rfl, ?_⟩
            conv => whnf
            refine ⟨_, _, d_all x _, True.intro, ?_⟩
            conv => whnf
            refine rangeV_of (allY d x) [.any, .ptr 0 0 0, .ptr 0 2 0, .ptr 0 3 0, .d (.int .i64 i), .any, .any, .any, .any, .any, .any, .any, .any, .any, .any, .any, .any, .any, .any, .any, .any, .any, .any, .any, .any, .any, .any, .any, .any, .any, .any, .any, .any, .any, .any, .any, .any, .any, .any, .any, .any, .any, .any, .any, .any, .any, .any, .any, .any, .any, .any, .any, .any, .any, .any, .any, .any, .any, .any, .any, .any, .any, .any] (fun j => [bNode n, .gen Y (some (posD d n i + j)), .box [.yld Y], .box [.kb true]]) (fun j => True) [0, 1, 2, 3] it trivial ?_ ?_ ?_
            · refine And.intro rfl (And.intro ?_ ?_)
              all_goals (repeat' (first | exact True.intro | exact rfl | refine And.intro ?_ ?_))
            · rintro j y hy _
              unfold allY at hy
              rw [List.getElem?_map] at hy
              obtain ⟨p, hp, rfl⟩ := Option.map_eq_some_iff.1 hy
              have hyy := ally_get (i := i) (j := j) (p := p) hk (by unfold segD; rw [hkid, List.getElem?_append_left (List.getElem?_eq_some_iff.1 hp).1]; exact hp)
              conv => whnf
              refine ⟨rfl, hP, by rw [hxs]; exact hyy, ?_, ?_⟩ <;> (conv => whnf)
              · refine ⟨trivial, [0, 1, 2, 3], And.intro rfl (And.intro ?_ ?_)⟩
                all_goals (repeat' (first | exact True.intro | exact rfl | refine And.intro ?_ ?_))
              · exact ⟨rfl, True.intro⟩
            · intro _
              conv => whnf
              have hpos : (posD d n i + (allY d x).length) = posD d n i + (kidD d n i).length := by rw [hkid]; unfold allY; rw [List.length_map]
              refine And.intro (fun q3 => ?_) (fun q3 => ?_) <;> (conv => whnf)
              · refine And.intro (fun q4 => ?_) (fun q4 => ?_) <;> (conv => whnf)
                · have hk3 : i < n.keys.length := by simpa using q3
                  have hk4 : i < n.chains.length := by simpa using q4
                  obtain ⟨ky, hky⟩ : ∃ y, n.keys[i]? = some y := ⟨_, List.getElem?_eq_getElem hk3⟩
                  obtain ⟨ch, hch⟩ : ∃ y, n.chains[i]? = some y := ⟨_, List.getElem?_eq_getElem hk4⟩
                  have fk : (n.keys.map fun k => [encB k])[((i : Nat) : Int).toNat]? = some [encB ky] := by rw [Int.toNat_natCast, List.getElem?_map, hky]; rfl
                  have fc : (n.chains.map fun c => [encVs c])[((i : Nat) : Int).toNat]? = some [encVs ch] := by rw [Int.toNat_natCast, List.getElem?_map, hch]; rfl
                  have hseg : segD d n i = kidD d n i ++ [(ky, ch)] := by unfold segD pairD; rw [hky, hch]
                  have hy : Y.xs[(posD d n i + (allY d x).length)]? = some [.one (encB ky), .one (encVs ch)] := by rw [hxs, hpos]; exact ally_get (p := (ky, ch)) hk (by rw [hseg, List.getElem?_append_right (Nat.le_refl _), Nat.sub_self]; rfl)
                  have hp : posD d n (i + 1) = (posD d n i + (allY d x).length) + 1 := by rw [hpos, posD_succ, hseg]; simp; omega
                  have hge : (0 : Int) ≤ ((i : Nat) : Int) := by omega
                  have hi1 : i + 1 ≤ n.keys.length + 1 := by omega
                  repeat' (first
                    | (refine ⟨hge, [encB ky], fk, rfl, ?_⟩; conv => whnf)
                    | (refine ⟨hge, [encVs ch], fc, rfl, ?_⟩; conv => whnf)
                    | (refine ⟨rfl, hP, hy, ?_, ?_⟩ <;> (conv => whnf))
                    | (intro z hz; conv => whnf
                       rw [wrap_small (by omega) (by omega)] at hz
                       subst hz
                       first
                         | (refine ⟨(i + 1, true), [0, 1, 2, 3], hi1, by show n.keys.length + 1 - (i + 1) < n.keys.length + 1 - i; omega, And.intro rfl (And.intro ?_ ?_)⟩
                            (all_goals (repeat' (first | exact True.intro | exact rfl | refine And.intro ?_ ?_)))
                            exact congrArg some hp.symm)
                         | (refine ⟨(i + 1, false), [0, 1, 2, 3], hi1, by show n.keys.length + 1 - (i + 1) < n.keys.length + 1 - i; omega, And.intro rfl (And.intro ?_ ?_)⟩
                            (all_goals (repeat' (first | exact True.intro | exact rfl | refine And.intro ?_ ?_)))
                            done))
                    | (refine And.intro ?_ ?_ <;> (conv => whnf))
                    | fail)
                · have hseg : segD d n i = kidD d n i := by
                    have : n.chains[i]? = none := List.getElem?_eq_none (by simpa using q4)
                    unfold segD pairD; rw [this]; cases n.keys[i]? <;> simp
                  have hp : posD d n (i + 1) = (posD d n i + (allY d x).length) := by rw [hpos, posD_succ, hseg]
                  intro z hz; conv => whnf
                  rw [wrap_small (by omega) (by omega)] at hz
                  subst hz
                  refine ⟨(i + 1, true), [0, 1, 2, 3], by show i + 1 ≤ n.keys.length + 1; omega, by show n.keys.length + 1 - (i + 1) < n.keys.length + 1 - i; omega, And.intro rfl (And.intro ?_ ?_)⟩
                  all_goals (repeat' (first | exact True.intro | exact rfl | refine And.intro ?_ ?_))
                  exact congrArg some hp.symm
              · have hseg : segD d n i = kidD d n i := by
                  have : n.keys[i]? = none := List.getElem?_eq_none (by simpa using q3)
                  unfold segD pairD; rw [this]; simp
                have hp : posD d n (i + 1) = (posD d n i + (allY d x).length) := by rw [hpos, posD_succ, hseg]
                intro z hz; conv => whnf
                rw [wrap_small (by omega) (by omega)] at hz
                subst hz
                refine ⟨(i + 1, true), [0, 1, 2, 3], by show i + 1 ≤ n.keys.length + 1; omega, by show n.keys.length + 1 - (i + 1) < n.keys.length + 1 - i; omega, And.intro rfl (And.intro ?_ ?_)⟩
                all_goals (repeat' (first | exact True.intro | exact rfl | refine And.intro ?_ ?_))
                exact congrArg some hp.symm
          · have hk2 : ¬ i < n.kids.length := by simpa using q2
            have hkid : kidD d n i = [] := by unfold kidD kidP; rw [List.getElem?_eq_none (by omega)]
            have hpos : (posD d n i) = posD d n i + (kidD d n i).length := by rw [hkid]; rfl
            refine And.intro (fun q3 => ?_) (fun q3 => ?_) <;> (conv => whnf)
            · refine And.intro (fun q4 => ?_) (fun q4 => ?_) <;> (conv => whnf)
              · have hk3 : i < n.keys.length := by simpa using q3
                have hk4 : i < n.chains.length := by simpa using q4
                obtain ⟨ky, hky⟩ : ∃ y, n.keys[i]? = some y := ⟨_, List.getElem?_eq_getElem hk3⟩
                obtain ⟨ch, hch⟩ : ∃ y, n.chains[i]? = some y := ⟨_, List.getElem?_eq_getElem hk4⟩
                have fk : (n.keys.map fun k => [encB k])[((i : Nat) : Int).toNat]? = some [encB ky] := by rw [Int.toNat_natCast, List.getElem?_map, hky]; rfl
                have fc : (n.chains.map fun c => [encVs c])[((i : Nat) : Int).toNat]? = some [encVs ch] := by rw [Int.toNat_natCast, List.getElem?_map, hch]; rfl
                have hseg : segD d n i = kidD d n i ++ [(ky, ch)] := by unfold segD pairD; rw [hky, hch]
                have hy : Y.xs[(posD d n i)]? = some [.one (encB ky), .one (encVs ch)] := by rw [hxs, hpos]; exact ally_get (p := (ky, ch)) hk (by rw [hseg, List.getElem?_append_right (Nat.le_refl _), Nat.sub_self]; rfl)
                have hp : posD d n (i + 1) = (posD d n i) + 1 := by rw [hpos, posD_succ, hseg]; simp; omega
                have hge : (0 : Int) ≤ ((i : Nat) : Int) := by omega
                have hi1 : i + 1 ≤ n.keys.length + 1 := by omega
                repeat' (first
                  | (refine ⟨hge, [encB ky], fk, rfl, ?_⟩; conv => whnf)
                  | (refine ⟨hge, [encVs ch], fc, rfl, ?_⟩; conv => whnf)
                  | (refine ⟨rfl, hP, hy, ?_, ?_⟩ <;> (conv => whnf))
                  | (intro z hz; conv => whnf
                     rw [wrap_small (by omega) (by omega)] at hz
                     subst hz
                     first
                       | (refine ⟨(i + 1, true), [0, 1, 2, 3], hi1, by show n.keys.length + 1 - (i + 1) < n.keys.length + 1 - i; omega, And.intro rfl (And.intro ?_ ?_)⟩
                          (all_goals (repeat' (first | exact True.intro | exact rfl | refine And.intro ?_ ?_)))
                          exact congrArg some hp.symm)
                       | (refine ⟨(i + 1, false), [0, 1, 2, 3], hi1, by show n.keys.length + 1 - (i + 1) < n.keys.length + 1 - i; omega, And.intro rfl (And.intro ?_ ?_)⟩
                          (all_goals (repeat' (first | exact True.intro | exact rfl | refine And.intro ?_ ?_)))
                          done))
                  | (refine And.intro ?_ ?_ <;> (conv => whnf))
                  | fail)
              · have hseg : segD d n i = kidD d n i := by
                  have : n.chains[i]? = none := List.getElem?_eq_none (by simpa using q4)
                  unfold segD pairD; rw [this]; cases n.keys[i]? <;> simp
                have hp : posD d n (i + 1) = (posD d n i) := by rw [hpos, posD_succ, hseg]
                intro z hz; conv => whnf
                rw [wrap_small (by omega) (by omega)] at hz
                subst hz
                refine ⟨(i + 1, true), [0, 1, 2, 3], by show i + 1 ≤ n.keys.length + 1; omega, by show n.keys.length + 1 - (i + 1) < n.keys.length + 1 - i; omega, And.intro rfl (And.intro ?_ ?_)⟩
                all_goals (repeat' (first | exact True.intro | exact rfl | refine And.intro ?_ ?_))
                exact congrArg some hp.symm
            · have hseg : segD d n i = kidD d n i := by
                have : n.keys[i]? = none := List.getElem?_eq_none (by simpa using q3)
                unfold segD pairD; rw [this]; simp
              have hp : posD d n (i + 1) = (posD d n i) := by rw [hpos, posD_succ, hseg]
              intro z hz; conv => whnf
              rw [wrap_small (by omega) (by omega)] at hz
              subst hz
              refine ⟨(i + 1, true), [0, 1, 2, 3], by show i + 1 ≤ n.keys.length + 1; omega, by show n.keys.length + 1 - (i + 1) < n.keys.length + 1 - i; omega, And.intro rfl (And.intro ?_ ?_)⟩
              all_goals (repeat' (first | exact True.intro | exact rfl | refine And.intro ?_ ?_))
              exact congrArg some hp.symm
end Go.Proofs.Ve

/- Whether an index may be. -/
set_option maxRecDepth 100000
set_option maxHeartbeats 8000000
set_option linter.all false
namespace Go.Proofs.Ve
open Go
abbrev KV := List UInt8 × List Ver
theorem allD_mem : ∀ (d : Nat) (n : Node), nOk d n → ∀ p ∈ allD d n, p.1.length ≤ 1000000 ∧ p.2.length < 100000 ∧ ∀ v ∈ p.2, v.val.length ≤ 1000000
  | 0, n, h, _, _ => h.elim
  | d + 1, n, h, p, hp => by
    simp only [allD, List.mem_flatMap, List.mem_append] at hp
    obtain ⟨i, _, hp | hp⟩ := hp
    · unfold kidP at hp
      split at hp
      · rename_i x hx
        exact allD_mem d x (nOk_kid h x (List.mem_of_getElem? hx)) p hp
      · cases hp
    · unfold pairD at hp
      split at hp
      · rename_i k c hk hc
        obtain rfl := List.mem_singleton.1 hp
        exact ⟨nOk_key h _ (List.mem_of_getElem? hk), nOk_chain h _ (List.mem_of_getElem? hc)⟩
      · cases hp
def keyBad (o : Option (List UInt8)) (p : KV) : Bool := (decide ((p.1.length : Int) > 16) || ((p.2.length : Int) == 0)) || !vsOk p.2 || (match o with | none => false | some a => decide (cmpB a p.1 ≥ 0))
def chkL : Option (List UInt8) → List KV → Bool
  | _, [] => true
  | o, p :: ps => if keyBad o p then false else chkL (some p.1) ps
def checkN (d : Nat) (n : Node) : Bool := if deepN n 0 == 0 then false else chkL none (allD d n)
def prevK (l : List KV) (k : Nat) : Option (List UInt8) := match k with | 0 => none | k + 1 => l[k]?.map (·.1)
theorem chkL_at {o : Option (List UInt8)} {l : List KV} {k : Nat} {p : KV} (h : l[k]? = some p) : chkL o (l.drop k) = if keyBad o p then false else chkL (some p.1) (l.drop (k + 1)) := by
  obtain ⟨hk, rfl⟩ := List.getElem?_eq_some_iff.1 h
  rw [List.drop_eq_getElem_cons hk]; rfl
theorem d_check (d : Nat) (n : Node) (hd : d < 1000000) (hn : nOk d n) (H : List (List Blk)) : CallEq X H 22 [pNode n] (.d (.bool (checkN d n))) [] := by
  have hdeep := fun H => d_deep d n 0 H hd hn
  have heq : checkN d n = if deepN n 0 == 0 then false else chkL none (allD d n) := rfl
  have hmem := allD_mem d n hn
  generalize checkN d n = R at heq ⊢
  generalize deepN n 0 = D at heq hdeep
  refine callEq_of_body X_ok rfl Try.func22 rfl ?_
  conv => whnf
  refine ⟨_, _, hdeep _, True.intro, ?_⟩
  conv => whnf
  refine And.intro (fun q => ?_) (fun q => ?_) <;> (conv => whnf)
  · rw [if_pos q] at heq
    subst heq
    exact ⟨[], rfl, rfl, True.intro⟩
  · rw [if_neg (by simpa using q)] at heq
    refine ⟨_, _, d_all n _, True.intro, ?_⟩
    conv => whnf
    refine rangeV_of (allY d n) [.any, .ptr 0 0 0, .ptr 0 1 0, .ptr 0 2 0, .ptr 0 3 0, .any, .any, .any, .any, .any, .any, .any, .any, .any, .any, .any, .any, .any, .any, .any, .any, .any, .any, .any, .any, .any, .any, .any, .any, .any, .any, .any, .any, .any, .any, .any, .any, .any] (fun k => [bNode n, .box [.d (.bool false)], .box [.d (encB ((prevK (allD d n) k).getD []))], .box [.d (.bool (k == 0))]])
      (fun k => R = chkL (prevK (allD d n) k) ((allD d n).drop k)) [0, 1, 2, 3] (i_all d n hd hn) heq ?_ ?_ ?_
    · refine And.intro rfl (And.intro ?_ ?_)
      all_goals (repeat' (first | exact True.intro | exact rfl | refine And.intro ?_ ?_))
    · rintro k y hy hI
      unfold allY at hy
      rw [List.getElem?_map] at hy
      obtain ⟨p, hp, rfl⟩ := Option.map_eq_some_iff.1 hy
      rw [chkL_at hp] at hI
      have hpm := hmem p (List.mem_of_getElem? hp)
      have hv := fun H => d_vscheck p.2 (by omega) H
      have hc := fun a H => d_comp a p.1 H
      have hnx : prevK (allD d n) (k + 1) = some p.1 := by show (allD d n)[k]?.map _ = _; rw [hp]; rfl
      rw [← hnx] at hI
      have hl1 : ((p.1.map fun x => [DV.int .u8 (x.toNat : Int)]).length : Int) = p.1.length := by rw [List.length_map]
      have hl2 : ((p.2.map cVer).length : Int) = p.2.length := by rw [List.length_map]
      have hz : (k == 0) = true → prevK (allD d n) k = none := fun h => by cases k with | zero => rfl | succ k => cases h
      have hs : (k == 0) = false → prevK (allD d n) k = some ((prevK (allD d n) k).getD []) := fun h => by
        cases k with
        | zero => cases h
        | succ k =>
          show (allD d n)[k]?.map _ = some (((allD d n)[k]?.map _).getD [])
          have : k < (allD d n).length := by have := (List.getElem?_eq_some_iff.1 hp).1; omega
          rw [List.getElem?_eq_getElem this]; rfl
      generalize (k == 0) = b at hz hs ⊢
      generalize prevK (allD d n) k = o at hI hz hs ⊢
      generalize (o.getD []) = a at hs ⊢
      have hb : ((decide ((p.1.length : Int) > 16) || ((p.2.length : Int) == 0)) || !vsOk p.2 || (!b && decide (cmpB a p.1 ≥ 0))) = keyBad o p := by
        unfold keyBad
        cases b with
        | true => rw [hz rfl]; rfl
        | false => rw [hs rfl]; rfl
      rw [← hb] at hI
      clear hb hz hs
      generalize vsOk p.2 = v at hI hv
      have hI1 : ((decide ((p.1.length : Int) > 16) || ((p.2.length : Int) == 0)) || !v || (!b && decide (cmpB a p.1 ≥ 0))) = true → R = false := fun h => by rw [hI, if_pos h]
      have hI2 : ((decide ((p.1.length : Int) > 16) || ((p.2.length : Int) == 0)) || !v || (!b && decide (cmpB a p.1 ≥ 0))) = false → R = chkL (prevK (allD d n) (k + 1)) ((allD d n).drop (k + 1)) := fun h => by rw [hI, if_neg (by simp [h])]
      clear hI
      conv => whnf
      repeat' (first
        | (refine And.intro (fun h3 => ?_) (fun h3 => ?_) <;> (conv => whnf))
        | (refine ⟨_, _, hv _, True.intro, ?_⟩; conv => whnf)
        | (refine ⟨_, _, hc _ _, True.intro, ?_⟩; conv => whnf)
        | (refine ⟨[], rfl, ?_, True.intro⟩
           rw [hI1 (by simp_all)]
           (repeat' (first | exact True.intro | exact rfl | refine And.intro ?_ ?_))
           done)
        | (refine ⟨hI2 (by simp_all), [0, 1, 2, 3], And.intro rfl (And.intro ?_ ?_)⟩
           all_goals (repeat' (first | exact True.intro | exact rfl | refine And.intro ?_ ?_))
           rw [hnx]; rfl)
        | fail)
    · intro hI
      conv => whnf
      refine ⟨[], rfl, ?_, True.intro⟩
      have : R = true := by rw [hI, List.drop_eq_nil_of_le (by unfold allY; rw [List.length_map]; omega)]; rfl
      rw [this]; (repeat' (first | exact True.intro | exact rfl | refine And.intro ?_ ?_))
end Go.Proofs.Ve

/- All of an index's keys; how many; how deep; versions in memory of their own. -/
set_option maxRecDepth 100000
set_option maxHeartbeats 8000000
set_option linter.all false
namespace Go.Proofs.Ve
open Go
theorem tk_snoc {α : Type} {l : List α} {k : Nat} {x : α} (h : l[k]? = some x) : l.take (k + 1) = l.take k ++ [x] := by rw [List.take_add_one, h]; rfl
theorem deep_parts {n : Node} {least : Int} (h : deepN n least ≠ 0) : n.chains.length = n.keys.length ∧ n.keys.length ≤ 3 ∧ least ≤ n.keys.length ∧
    (n.kids = [] ∧ deepN n least = 1 ∨ n.kids.length = n.keys.length + 1 ∧ n.keys.length ≠ 0 ∧ ∀ x ∈ n.kids, deepN x 1 + 1 = deepN n least ∧ deepN x 1 ≠ 0) := by
  have e := deepN_eq n least
  generalize deepN n least = D at e h ⊢
  split at e
  · exact absurd e h
  · rename_i h1
    have a1 : n.chains.length = n.keys.length := by simp at h1; omega
    have a2 : n.keys.length ≤ 3 := by simp at h1; omega
    have a3 : least ≤ n.keys.length := by simp at h1; omega
    refine ⟨a1, a2, a3, ?_⟩
    cases hk : n.kids with
    | nil => rw [hk] at e; exact .inl ⟨rfl, e⟩
    | cons x xs =>
      rw [hk] at e
      simp only [List.map_cons] at e
      split at e
      · exact absurd e h
      · rename_i h2
        split at e
        · exact absurd e h
        · rename_i h3
          split at e
          · exact absurd e h
          · rename_i h4
            have h4 : deepN x 1 ≠ 0 := by simpa using h4
            refine .inr ⟨by simp at h2 ⊢; omega, fun h => h2 (by rw [h]; simp), ?_⟩
            have hall : ∀ y ∈ xs, deepN y 1 = deepN x 1 := by
              intro y hy
              have := h3
              simp only [List.any_eq_true, List.mem_map, not_exists, not_and] at this
              have := this (deepN y 1) ⟨y, hy, rfl⟩
              simpa using this
            intro y hy
            rcases List.mem_cons.1 hy with rfl | hy
            · exact ⟨e.symm, h4⟩
            · rw [hall y hy]; exact ⟨e.symm, h4⟩
theorem flat_len {α : Type} {f : Nat → List α} {c : Nat} : ∀ (m : Nat), (∀ i, i < m → (f i).length ≤ c) → ((List.range m).flatMap f).length ≤ m * c
  | 0, _ => by simp
  | m + 1, h => by
    rw [List.range_succ, List.flatMap_append, List.length_append, Nat.succ_mul]
    have h1 := flat_len m (fun i hi => h i (by omega))
    have h2 := h m (by omega)
    simpa using Nat.add_le_add h1 h2
theorem allD_len : ∀ (d : Nat) (n : Node) (least : Int), nOk d n → deepN n least ≠ 0 → (allD d n).length + 1 ≤ 4 ^ d
  | 0, n, _, h, _ => h.elim
  | d + 1, n, least, h, hd => by
    obtain ⟨h1, h2, h3, h4⟩ := deep_parts hd
    have hp : 4 ^ (d + 1) = 4 * 4 ^ d := by rw [Nat.pow_succ, Nat.mul_comm]
    have hpos : 1 ≤ 4 ^ d := Nat.pos_of_ne_zero (by simp)
    have hkid : ∀ i, (kidP (allD d) n i).length + 1 ≤ 4 ^ d := by
      intro i
      unfold kidP
      split
      · rename_i x hx
        have hm := List.mem_of_getElem? hx
        rcases h4 with ⟨h4, _⟩ | ⟨_, _, h4⟩
        · rw [h4] at hm; cases hm
        · exact allD_len d x 1 (nOk_kid h x hm) (h4 x hm).2
      · exact hpos
    have hpair : ∀ i, (pairD n i).length ≤ 1 := by
      intro i; unfold pairD; split <;> simp
    have hlast : pairD n n.keys.length = [] := by
      unfold pairD; rw [List.getElem?_eq_none (Nat.le_refl _)]
    show ((List.range (n.keys.length + 1)).flatMap fun i => kidP (allD d) n i ++ pairD n i).length + 1 ≤ _
    rw [List.range_succ, List.flatMap_append, List.length_append]
    have hA := flat_len (f := fun i => kidP (allD d) n i ++ pairD n i) (c := 4 ^ d) n.keys.length (fun i _ => by
      have := hkid i; have := hpair i; simp only [List.length_append]; omega)
    have hB := hkid n.keys.length
    simp only [List.flatMap_cons, List.flatMap_nil, List.append_nil, hlast]
    have hC : n.keys.length * 4 ^ d ≤ 3 * 4 ^ d := Nat.mul_le_mul_right _ h2
    omega
theorem pow4 {d : Nat} (h : d ≤ 16) : 4 ^ d ≤ 4294967296 := Nat.le_trans (Nat.pow_le_pow_right (by decide) h) (by decide)
theorem check_len {d : Nat} {n : Node} (hd : d ≤ 16) (hn : nOk d n) (h : checkN d n = true) : (allD d n).length < 4294967296 := by
  have h1 : deepN n 0 ≠ 0 := fun h' => by unfold checkN at h; rw [if_pos (by simp [h'])] at h; cases h
  have := allD_len d n 0 hn h1
  have := pow4 hd
  omega
def keysN (d : Nat) (n : Node) : List (List UInt8) := if checkN d n then (allD d n).map (·.1) else []
def rowK (l : List (List UInt8)) : List (List DV) := l.map fun k => [encB k]
theorem d_keysR (d : Nat) (n : Node) (hd : d ≤ 16) (hn : nOk d n) (H : List (List Blk)) : CallEq X H 35 [pNode n] (.row 0 0 (keysN d n).length) [⟨27, 1, rowK (keysN d n)⟩] := by
  have hchk := fun H => d_check d n (by omega) hn H
  have hmem := allD_mem d n hn
  have hlen := check_len hd hn
  unfold keysN
  generalize checkN d n = R at hchk hlen ⊢
  refine callEq_of_body X_ok rfl Try.func35 rfl ?_
  conv => whnf
  refine ⟨_, _, hchk _, True.intro, ?_⟩
  conv => whnf
  refine And.intro (fun q => ?_) (fun q => ?_) <;> (conv => whnf)
  · obtain rfl : R = false := by simpa using q
    exact ⟨[5], rfl, by (repeat' (first | exact True.intro | exact rfl | refine And.intro ?_ ?_))⟩
  · obtain rfl : R = true := by simpa using q
    have hlen := hlen rfl
    rw [if_pos rfl]
    refine ⟨_, _, d_all n _, True.intro, ?_⟩
    conv => whnf
    have take_succ : ∀ {k : Nat} {p : KV}, (allD d n)[k]? = some p → rowK (((allD d n).take (k + 1)).map (·.1)) = rowK (((allD d n).take k).map (·.1)) ++ [[encB p.1]] := fun h => by
      rw [tk_snoc h]; simp [rowK]
    refine rangeV_of (allY d n) [.any, .ptr 0 0 0, .ptr 0 1 0, .any, .any, .any, .any, .any, .any, .any, .any, .any, .any, .any, .any, .any, .any] (fun k => [bNode n, .box [.row 0 2 (rowK (((allD d n).take k).map (·.1))).length], .row 27 1 (rowK (((allD d n).take k).map (·.1)))])
      (fun k => True) [0, 1, 3] (i_all d n (by omega) hn) trivial ?_ ?_ ?_
    · refine And.intro rfl (And.intro ?_ ?_)
      all_goals (repeat' (first | exact True.intro | exact rfl | refine And.intro ?_ ?_))
    · rintro k y hy _
      unfold allY at hy
      rw [List.getElem?_map] at hy
      obtain ⟨p, hp, rfl⟩ := Option.map_eq_some_iff.1 hy
      have hpm := hmem p (List.mem_of_getElem? hp)
      have hr := take_succ hp
      have hk : k < (allD d n).length := (List.getElem?_eq_some_iff.1 hp).1
      have hrl : (rowK (((allD d n).take k).map (·.1))).length = k := by unfold rowK; simp; omega
      generalize rowK (((allD d n).take k).map (·.1)) = rk at hr hrl ⊢
      conv => whnf
      refine ⟨_, _, c103 p.1 (by omega) _, True.intro, ?_⟩
      conv => whnf
      refine ⟨fun y hy => by simp at hy; subst hy; rfl, ?_⟩
      conv => whnf
      refine ⟨by simp, by (first | omega | (dsimp only; omega) | (simp; done) | (simp; omega)), ?_⟩
      conv => whnf
      refine ⟨trivial, [0, 1, 3], And.intro rfl (And.intro ?_ ?_)⟩
      all_goals (try rw [hr])
      all_goals (repeat' (first | exact True.intro | exact rfl | refine And.intro ?_ ?_))
      all_goals (show PV.row 0 3 _ = PV.row 0 3 _; rw [List.length_append])
    · intro _
      conv => whnf
      have : (allY d n).length = (allD d n).length := by unfold allY; rw [List.length_map]
      rw [this, List.take_length]
      refine ⟨[2], rfl, ?_⟩
      (repeat' (first | exact True.intro | exact rfl | refine And.intro ?_ ?_))
      show PV.row 0 2 _ = PV.row 0 2 _
      unfold rowK; rw [List.length_map]
end Go.Proofs.Ve

/- Clones: copies of rows. How many keys; how deep. -/
set_option maxRecDepth 100000
set_option maxHeartbeats 8000000
set_option linter.all false
namespace Go.Proofs.Ve
open Go
theorem d_cloneV (xs : List (List DV)) (hx : ∀ x ∈ xs, x.length = 3) (hl : xs.length < 1000000) (H : List (List Blk)) : CallEq X H 54 [.d (.sl xs)] (.row 0 0 xs.length) [⟨61, 3, xs⟩] := by
  refine callEq_of_body X_ok rfl Try.func54 rfl ?_
  conv => whnf
  refine And.intro (fun h => ?_) (fun h => ?_) <;> (conv => whnf)
  · subst h
    refine And.intro ?_ ?_ <;> (conv => whnf)
    · exact ⟨[5], rfl, by (repeat' (first | exact True.intro | exact rfl | refine And.intro ?_ ?_))⟩
    · refine ⟨fun y hy => (by cases hy), ?_⟩
      conv => whnf
      refine ⟨rfl, by decide, ?_⟩
      conv => whnf
      exact ⟨[1], rfl, by (repeat' (first | exact True.intro | exact rfl | refine And.intro ?_ ?_))⟩
  · refine ⟨fun y hy => hx y hy, ?_⟩
    conv => whnf
    refine ⟨rfl, by (first | omega | (dsimp only; omega) | (simp; done) | (simp; omega)), ?_⟩
    conv => whnf
    refine ⟨[1], rfl, ?_⟩
    (repeat' (first | exact True.intro | exact rfl | refine And.intro ?_ ?_))
    show PV.row 0 1 _ = PV.row 0 1 _; rw [Nat.zero_add]
theorem d_cloneVn (H : List (List Blk)) : CallEq X H 54 [.nils] .nils [] := by
  refine callEq_of_body X_ok rfl Try.func54 rfl ?_
  conv => whnf
  exact ⟨[], rfl, by (repeat' (first | exact True.intro | exact rfl | refine And.intro ?_ ?_))⟩
theorem d_cloneK (xs : List (List DV)) (hx : ∀ x ∈ xs, x.length = 1) (hl : xs.length < 1000000) (H : List (List Blk)) : CallEq X H 58 [.d (.sl xs)] (.row 0 0 xs.length) [⟨27, 1, xs⟩] := by
  refine callEq_of_body X_ok rfl Try.func58 rfl ?_
  conv => whnf
  refine And.intro (fun h => ?_) (fun h => ?_) <;> (conv => whnf)
  · subst h
    refine And.intro ?_ ?_ <;> (conv => whnf)
    · exact ⟨[5], rfl, by (repeat' (first | exact True.intro | exact rfl | refine And.intro ?_ ?_))⟩
    · refine ⟨fun y hy => (by cases hy), ?_⟩
      conv => whnf
      refine ⟨rfl, by decide, ?_⟩
      conv => whnf
      exact ⟨[1], rfl, by (repeat' (first | exact True.intro | exact rfl | refine And.intro ?_ ?_))⟩
  · refine ⟨fun y hy => hx y hy, ?_⟩
    conv => whnf
    refine ⟨rfl, by (first | omega | (dsimp only; omega) | (simp; done) | (simp; omega)), ?_⟩
    conv => whnf
    refine ⟨[1], rfl, ?_⟩
    (repeat' (first | exact True.intro | exact rfl | refine And.intro ?_ ?_))
    show PV.row 0 1 _ = PV.row 0 1 _; rw [Nat.zero_add]
theorem d_cloneKn (H : List (List Blk)) : CallEq X H 58 [.nils] .nils [] := by
  refine callEq_of_body X_ok rfl Try.func58 rfl ?_
  conv => whnf
  exact ⟨[], rfl, by (repeat' (first | exact True.intro | exact rfl | refine And.intro ?_ ?_))⟩
theorem d_cloneC (xs : List (List DV)) (hx : ∀ x ∈ xs, x.length = 1) (hl : xs.length < 1000000) (H : List (List Blk)) : CallEq X H 59 [.d (.sl xs)] (.row 0 0 xs.length) [⟨32, 1, xs⟩] := by
  refine callEq_of_body X_ok rfl Try.func59 rfl ?_
  conv => whnf
  refine And.intro (fun h => ?_) (fun h => ?_) <;> (conv => whnf)
  · subst h
    refine And.intro ?_ ?_ <;> (conv => whnf)
    · exact ⟨[5], rfl, by (repeat' (first | exact True.intro | exact rfl | refine And.intro ?_ ?_))⟩
    · refine ⟨fun y hy => (by cases hy), ?_⟩
      conv => whnf
      refine ⟨rfl, by decide, ?_⟩
      conv => whnf
      exact ⟨[1], rfl, by (repeat' (first | exact True.intro | exact rfl | refine And.intro ?_ ?_))⟩
  · refine ⟨fun y hy => hx y hy, ?_⟩
    conv => whnf
    refine ⟨rfl, by (first | omega | (dsimp only; omega) | (simp; done) | (simp; omega)), ?_⟩
    conv => whnf
    refine ⟨[1], rfl, ?_⟩
    (repeat' (first | exact True.intro | exact rfl | refine And.intro ?_ ?_))
    show PV.row 0 1 _ = PV.row 0 1 _; rw [Nat.zero_add]
theorem d_cloneCn (H : List (List Blk)) : CallEq X H 59 [.nils] .nils [] := by
  refine callEq_of_body X_ok rfl Try.func59 rfl ?_
  conv => whnf
  exact ⟨[], rfl, by (repeat' (first | exact True.intro | exact rfl | refine And.intro ?_ ?_))⟩
theorem d_cloneN (xs : List (List DV)) (hx : ∀ x ∈ xs, x.length = 3) (hl : xs.length < 1000000) (H : List (List Blk)) : CallEq X H 60 [.d (.sl xs)] (.row 0 0 xs.length) [⟨26, 3, xs⟩] := by
  refine callEq_of_body X_ok rfl Try.func60 rfl ?_
  conv => whnf
  refine And.intro (fun h => ?_) (fun h => ?_) <;> (conv => whnf)
  · subst h
    refine And.intro ?_ ?_ <;> (conv => whnf)
    · exact ⟨[5], rfl, by (repeat' (first | exact True.intro | exact rfl | refine And.intro ?_ ?_))⟩
    · refine ⟨fun y hy => (by cases hy), ?_⟩
      conv => whnf
      refine ⟨rfl, by decide, ?_⟩
      conv => whnf
      exact ⟨[1], rfl, by (repeat' (first | exact True.intro | exact rfl | refine And.intro ?_ ?_))⟩
  · refine ⟨fun y hy => hx y hy, ?_⟩
    conv => whnf
    refine ⟨rfl, by (first | omega | (dsimp only; omega) | (simp; done) | (simp; omega)), ?_⟩
    conv => whnf
    refine ⟨[1], rfl, ?_⟩
    (repeat' (first | exact True.intro | exact rfl | refine And.intro ?_ ?_))
    show PV.row 0 1 _ = PV.row 0 1 _; rw [Nat.zero_add]
theorem d_cloneNn (H : List (List Blk)) : CallEq X H 60 [.nils] .nils [] := by
  refine callEq_of_body X_ok rfl Try.func60 rfl ?_
  conv => whnf
  exact ⟨[], rfl, by (repeat' (first | exact True.intro | exact rfl | refine And.intro ?_ ?_))⟩

end Go.Proofs.Ve

/- Versions in memory of their own. -/
set_option maxRecDepth 100000
set_option maxHeartbeats 8000000
set_option linter.all false
namespace Go.Proofs.Ve
open Go
theorem d_versR (l : List Ver) (hl : l.length < 1000000) (hv : ∀ x ∈ l, x.val.length ≤ 1000000) (H : List (List Blk)) : CallEq X H 39 [.d (encVs l)] (.row 0 0 l.length) [⟨61, 3, l.map cVer⟩] := by
  have h3 : ∀ x ∈ l.map cVer, x.length = 3 := fun x hx => by simp only [List.mem_map] at hx; obtain ⟨_, _, rfl⟩ := hx; rfl
  have hlen : (l.map cVer).length = l.length := List.length_map ..
  refine callEq_of_bodyF X_ok false true (mo := []) (by kernel_rfl) Try.func39 rfl ?_
  conv => whnf
  refine ⟨_, _, (d_cloneV (l.map cVer) h3 (by omega) _).md _ _, True.intro, ?_⟩
  conv => whnf
  refine loopV_of (fun i : Nat => ⟨[.any, .any, .any, .row 0 0 (l.map cVer).length, .any, .any, .any, .any, .row 0 0 (l.map cVer).length, .d (.int .i64 (l.map cVer).length), .d (.int .i64 i), .any, .any, .any, .any, .any, .any, .any, .any, .any, .any, .any, .any, .any], [.row 61 3 (l.map cVer)]⟩)
    (fun i => i ≤ l.length) (fun i => l.length - i) 0 [0] (Nat.zero_le _) ?_ ?_
  · refine And.intro rfl (And.intro ?_ ?_)
    all_goals (repeat' (first | exact True.intro | exact rfl | refine And.intro ?_ ?_))
  · intro i hi
    conv => whnf
    refine And.intro (fun q => ?_) (fun q => ?_)
    · conv => whnf
      have hi' : i < l.length := by simpa using q
      obtain ⟨x, hx⟩ : ∃ x, l[i]? = some x := ⟨_, List.getElem?_eq_getElem hi'⟩
      have hxv := hv x (List.mem_of_getElem? hx)
      have hget : (l.map cVer)[((i : Nat) : Int).toNat]? = some (cVer x) := by rw [Int.toNat_natCast, List.getElem?_map, hx]; rfl
      have hset : (l.map cVer).set ((i : Nat) : Int).toNat (cVer x) = l.map cVer := by
        rw [Int.toNat_natCast]
        refine List.ext_getElem? fun j => ?_
        rw [List.getElem?_set]
        split
        · rename_i h; subst h
          rw [if_pos (by rw [hlen]; omega)]
          rw [List.getElem?_map, hx]; rfl
        · rfl
      refine ⟨by omega, by rw [hlen]; omega, ?_⟩
      conv => whnf
      refine ⟨cVer x, hget, ?_⟩
      conv => whnf
      refine ⟨_, _, (c103 x.val (by omega) _).md _ _, True.intro, ?_⟩
      conv => whnf
      refine ⟨by omega, by rw [hlen]; omega, ?_⟩
      conv => whnf
      refine ⟨cVer x, hget, ?_⟩
      conv => whnf
      intro z hz
      conv => whnf
      rw [wrap_small (by omega) (by omega)] at hz
      subst hz
      refine ⟨i + 1, [0], by omega, by omega, And.intro rfl (And.intro ?_ ?_)⟩
      all_goals (repeat' (first | exact True.intro | exact rfl | refine And.intro ?_ ?_))
      exact hset
    · conv => whnf
      refine ⟨[0], rfl, ?_⟩
      (repeat' (first | exact True.intro | exact rfl | refine And.intro ?_ ?_))
      show PV.row 0 0 _ = PV.row 0 0 _
      rw [hlen]
theorem d_vers (l : List Ver) (hl : l.length < 1000000) (hv : ∀ x ∈ l, x.val.length ≤ 1000000) (H : List (List Blk)) : CallEq X H 39 [.d (encVs l)] (.d (encVs l)) [] :=
  (d_versR l hl hv H).freeze 1 (by
    show PV.d (.sl ((l.map cVer).take l.length)) = _
    rw [List.take_of_length_le (by simp)]; rfl)
end Go.Proofs.Ve

/- How many keys, how deep; a key's versions; the next key. -/
set_option maxRecDepth 100000
set_option maxHeartbeats 8000000
set_option linter.all false
namespace Go.Proofs.Ve
open Go
theorem d_many (d : Nat) (n : Node) (hd : d ≤ 16) (hn : nOk d n) (H : List (List Blk)) : CallEq X H 24 [pNode n] (.d (.int .i64 (keysN d n).length)) [] := by
  have h := fun H => d_keysR d n hd hn H
  refine callEq_of_body X_ok rfl Try.func24 rfl ?_
  conv => whnf
  repeat' (first
    | (refine And.intro (fun h_ => ?_) (fun h_ => ?_) <;> (conv => whnf))
    | (refine ⟨_, _, h _, (by first | exact True.intro | exact And.intro rfl flat_nil), ?_⟩; conv => whnf)
    | (intro z_ hz_; conv => whnf)
    | (refine ⟨[], rfl, ?_, True.intro⟩; (conv => whnf); (first | done | ((repeat' (first | exact True.intro | exact rfl | refine And.intro ?_ ?_)); done)))
    | fail)
def depthN (d : Nat) (n : Node) : Int := if checkN d n then deepN n 0 else 0
theorem d_depth (d : Nat) (n : Node) (hd : d ≤ 16) (hn : nOk d n) (H : List (List Blk)) : CallEq X H 25 [pNode n] (.d (.int .i64 (depthN d n))) [] := by
  have h1 := fun H => d_check d n (by omega) hn H
  have h2 := fun H => d_deep d n 0 H (by omega) hn
  unfold depthN
  generalize checkN d n = R at h1 ⊢
  refine callEq_of_body X_ok rfl Try.func25 rfl ?_
  conv => whnf
  refine ⟨_, _, h1 _, True.intro, ?_⟩
  conv => whnf
  refine And.intro (fun q => ?_) (fun q => ?_) <;> (conv => whnf)
  · obtain rfl : R = false := by simpa using q
    exact ⟨[], rfl, by (repeat' (first | exact True.intro | exact rfl | refine And.intro ?_ ?_))⟩
  · obtain rfl : R = true := by simpa using q
    refine ⟨_, _, h2 _, True.intro, ?_⟩
    conv => whnf
    exact ⟨[], rfl, by (repeat' (first | exact True.intro | exact rfl | refine And.intro ?_ ?_))⟩
theorem bsF_le (p : List UInt8 → Int) (l : List (List UInt8)) : ∀ (n i j : Nat), i ≤ j → bsF p l n i j ≤ j ∧ i ≤ bsF p l n i j
  | 0, i, j, h => ⟨h, Nat.le_refl _⟩
  | n + 1, i, j, h => by
    unfold bsF
    split
    · split
      · have := bsF_le p l n (half i j + 1) j (by unfold half; omega)
        unfold half at this ⊢; omega
      · have := bsF_le p l n i (half i j) (by unfold half; omega)
        unfold half at this ⊢; omega
    · omega
theorem bs_le (l : List (List UInt8)) (k : List UInt8) : bs l k ≤ l.length := (bsF_le _ l _ 0 _ (Nat.zero_le _)).1
theorem bsIs_lt {l : List (List UInt8)} {k : List UInt8} (h : bsIs l k = true) : bs l k < l.length := by
  unfold bsIs at h
  simp at h
  omega
def findN : Nat → Node → List UInt8 → Option (List Ver)
  | 0, _, _ => none
  | d + 1, n, k => if bsIs n.keys k then n.chains[bs n.keys k]? else match n.kids[bs n.keys k]? with | some x => findN d x k | none => none
def ansV (o : Option (List Ver)) : PV := .tuple [.d (encVs (o.getD [])), .d (.bool o.isSome)]
def findA (d : Nat) (n : Node) (k : List UInt8) : Option (List Ver) := if checkN d n then findN d n k else none
theorem d_find (d : Nat) (n : Node) (k : List UInt8) (hd : d ≤ 16) (hn : nOk d n) (H : List (List Blk)) : CallEq X H 15 [pNode n, .d (encB k)] (ansV (findA d n k)) [] := by
  have hchk := fun H => d_check d n (by omega) hn H
  have hdeep : checkN d n = true → deepN n 0 ≠ 0 := fun h h' => by unfold checkN at h; rw [if_pos (by simp [h'])] at h; cases h
  have heq : findA d n k = if checkN d n then findN d n k else none := rfl
  generalize findA d n k = R at heq ⊢
  generalize checkN d n = C at hchk hdeep heq
  unfold ansV
  refine callEq_of_body X_ok rfl Try.func15 rfl ?_
  conv => whnf
  refine ⟨_, _, hchk _, True.intro, ?_⟩
  conv => whnf
  refine And.intro (fun q => ?_) (fun q => ?_) <;> (conv => whnf)
  · obtain rfl : C = false := by simpa using q
    obtain rfl : R = none := by simpa using heq
    exact ⟨[], rfl, by (repeat' (first | exact True.intro | exact rfl | refine And.intro ?_ ?_))⟩
  · obtain rfl : C = true := by simpa using q
    have heq : R = findN d n k := by simpa using heq
    refine loopV_of (fun i : Nat × Node => ⟨[.any, .d (encB k), .ptr 0 0 0, .any, .nils, .kb false, .any, .any, .any, .any, .any, .any, .any, .any, .any, .any, .any, .any, .any, .any, .any, .any, .any, .any, .any, .any, .any, .any, .any, .any, .any, .any, .any], [bNode i.2]⟩)
      (fun i => nOk i.1 i.2 ∧ (∃ l, deepN i.2 l ≠ 0) ∧ R = findN i.1 i.2 k) (fun i => i.1) (d, n) [0] ⟨hn, ⟨0, hdeep rfl⟩, heq⟩ ?_ ?_
    · refine And.intro rfl (And.intro ?_ ?_)
      all_goals (repeat' (first | exact True.intro | exact rfl | refine And.intro ?_ ?_))
    · rintro ⟨e, m⟩ ⟨hm, ⟨least, hl⟩, hI⟩
      dsimp only at hm hl hI
      obtain ⟨e, rfl⟩ := nOk_pos hm
      have hp := fun H => d_place m k (by have := nOk_keys hm; omega) H
      have hlf := fun H => d_leaf m H
      obtain ⟨p1, p2, p3, p4⟩ := deep_parts hl
      have hle := bs_le m.keys k
      have hlt : bsIs m.keys k = true → bs m.keys k < m.keys.length := bsIs_lt
      unfold findN at hI
      generalize bs m.keys k = i at hp hle hlt hI
      generalize bsIs m.keys k = is at hp hlt hI
      have hleaf : leafN m = true → m.kids = [] := fun h => by unfold leafN at h; simpa using h
      have hno : leafN m = false → m.kids ≠ [] := fun h h' => by unfold leafN at h; rw [h'] at h; cases h
      generalize leafN m = lf at hlf hleaf hno
      conv => whnf
      refine ⟨_, _, hp _, True.intro, ?_⟩
      conv => whnf
      refine And.intro (fun q => ?_) (fun q => ?_) <;> (conv => whnf)
      · rw [if_pos q] at hI
        obtain ⟨c, hc⟩ : ∃ y, m.chains[i]? = some y := ⟨_, List.getElem?_eq_getElem (by rw [p1]; exact hlt q)⟩
        rw [hc] at hI
        have hcv := nOk_chain hm c (List.mem_of_getElem? hc)
        refine ⟨by omega, [encVs c], by show (m.chains.map fun c => [encVs c])[((i : Nat) : Int).toNat]? = _; rw [Int.toNat_natCast, List.getElem?_map, hc]; rfl, rfl, ?_⟩
        conv => whnf
        refine ⟨_, _, d_vers c (by omega) hcv.2 _, True.intro, ?_⟩
        conv => whnf
        refine ⟨[], rfl, ?_⟩
        rw [hI]
        (repeat' (first | exact True.intro | exact rfl | refine And.intro ?_ ?_))
      · rw [if_neg (by simp [q])] at hI
        refine ⟨_, _, hlf _, True.intro, ?_⟩
        conv => whnf
        refine And.intro (fun q2 => ?_) (fun q2 => ?_) <;> (conv => whnf)
        · rw [hleaf q2] at hI
          refine ⟨[], rfl, ?_⟩
          rw [hI]
          (repeat' (first | exact True.intro | exact rfl | refine And.intro ?_ ?_))
        · rcases p4 with ⟨p4, _⟩ | ⟨p4, p5, p6⟩
          · exact absurd p4 (hno q2)
          obtain ⟨x, hx⟩ : ∃ y, m.kids[i]? = some y := ⟨_, List.getElem?_eq_getElem (by omega)⟩
          rw [hx] at hI
          have hmx := List.mem_of_getElem? hx
          refine ⟨by omega, [encKs x.keys, encCs x.chains, encNs x.kids], by show (m.kids.map cNode)[((i : Nat) : Int).toNat]? = _; rw [Int.toNat_natCast, List.getElem?_map, hx, Option.map_some, cNode_eq], rfl, ?_⟩
          conv => whnf
          refine ⟨(e, x), [0], ⟨nOk_kid hm x hmx, ⟨1, (p6 x hmx).2⟩, hI⟩, by show e < e + 1; omega, And.intro rfl (And.intro ?_ ?_)⟩
          all_goals (repeat' (first | exact True.intro | exact rfl | refine And.intro ?_ ?_))
end Go.Proofs.Ve

/- The next key. -/
set_option maxRecDepth 100000
set_option maxHeartbeats 8000000
set_option linter.all false
namespace Go.Proofs.Ve
open Go
def stepO (n : Node) (k : List UInt8) (o : Option (List UInt8)) : Option (List UInt8) := match n.keys[bs n.keys k]? with | some x => some x | none => o
def nextN : Nat → Node → List UInt8 → Option (List UInt8) → Option (List UInt8)
  | 0, _, _, o => o
  | d + 1, n, k, o => if bsIs n.keys k || leafN n then stepO n k o else match n.kids[bs n.keys k]? with | some x => nextN d x k (stepO n k o) | none => o
def ansB (o : Option (List UInt8)) : PV := .tuple [.d (encB (o.getD [])), .d (.bool o.isSome)]
def nextA (d : Nat) (n : Node) (k : List UInt8) : Option (List UInt8) := if checkN d n then nextN d n k none else none
theorem d_next (d : Nat) (n : Node) (k : List UInt8) (hd : d ≤ 16) (hn : nOk d n) (H : List (List Blk)) : CallEq X H 17 [pNode n, .d (encB k)] (ansB (nextA d n k)) [] := by
  have hchk := fun H => d_check d n (by omega) hn H
  have hdeep : checkN d n = true → deepN n 0 ≠ 0 := fun h h' => by unfold checkN at h; rw [if_pos (by simp [h'])] at h; cases h
  have heq : nextA d n k = if checkN d n then nextN d n k none else none := rfl
  generalize nextA d n k = R at heq ⊢
  generalize checkN d n = C at hchk hdeep heq
  unfold ansB
  refine callEq_of_body X_ok rfl Try.func17 rfl ?_
  conv => whnf
  refine ⟨_, _, hchk _, True.intro, ?_⟩
  conv => whnf
  refine And.intro (fun q => ?_) (fun q => ?_) <;> (conv => whnf)
  · obtain rfl : C = false := by simpa using q
    obtain rfl : R = none := by simpa using heq
    exact ⟨[], rfl, by (repeat' (first | exact True.intro | exact rfl | refine And.intro ?_ ?_))⟩
  · obtain rfl : C = true := by simpa using q
    have heq : R = nextN d n k none := by simpa using heq
    refine loopV_of (fun i : Nat × Node × Option (List UInt8) => ⟨[.any, .d (encB k), .ptr 0 0 0, .any, .d (encB (i.2.2.getD [])), .d (.bool i.2.2.isSome), .any, .any, .any, .any, .any, .any, .any, .any, .any, .any, .any, .any, .any, .any, .any, .any, .any, .any, .any, .any, .any, .any, .any, .any, .any, .any, .any, .any, .any, .any, .any, .any, .any, .any], [bNode i.2.1]⟩)
      (fun i => nOk i.1 i.2.1 ∧ (∃ l, deepN i.2.1 l ≠ 0) ∧ (i.2.2.getD []).length ≤ 1000000 ∧ R = nextN i.1 i.2.1 k i.2.2) (fun i => i.1) (d, n, none) [0] ⟨hn, ⟨0, hdeep rfl⟩, by simp, heq⟩ ?_ ?_
    · refine And.intro rfl (And.intro ?_ ?_)
      all_goals (repeat' (first | exact True.intro | exact rfl | refine And.intro ?_ ?_))
    · rintro ⟨e, m, o⟩ ⟨hm, ⟨least, hl⟩, ho, hI⟩
      dsimp only at hm hl hI ho
      obtain ⟨e, rfl⟩ := nOk_pos hm
      have hp := fun H => d_place m k (by have := nOk_keys hm; omega) H
      have hlf := fun H => d_leaf m H
      obtain ⟨p1, p2, p3, p4⟩ := deep_parts hl
      have hle := bs_le m.keys k
      have hlt : bsIs m.keys k = true → bs m.keys k < m.keys.length := bsIs_lt
      have hso : stepO m k o = match m.keys[bs m.keys k]? with | some x => some x | none => o := rfl
      have ho' : ((stepO m k o).getD []).length ≤ 1000000 := by
        rw [hso]
        split
        · rename_i x hx; exact nOk_key hm x (List.mem_of_getElem? hx)
        · exact ho
      unfold nextN at hI
      generalize stepO m k o = o' at hso hI ho'
      generalize bs m.keys k = i at hp hle hlt hI hso
      generalize bsIs m.keys k = is at hp hlt hI
      have hleaf : leafN m = true → m.kids = [] := fun h => by unfold leafN at h; simpa using h
      have hno : leafN m = false → m.kids ≠ [] := fun h h' => by unfold leafN at h; rw [h'] at h; cases h
      generalize leafN m = lf at hlf hleaf hno hI
      have hcl := fun H => c103 (o'.getD []) (by omega) H
      conv => whnf
      refine ⟨_, _, hp _, True.intro, ?_⟩
      conv => whnf
      have kid : is = false → lf = false → ∃ x, m.kids[i]? = some x ∧ nOk e x ∧ deepN x 1 ≠ 0 ∧ R = nextN e x k o' := fun h1 h2 => by
        rcases p4 with ⟨p4, _⟩ | ⟨p4, p5, p6⟩
        · exact absurd p4 (hno h2)
        obtain ⟨x, hx⟩ : ∃ y, m.kids[i]? = some y := ⟨_, List.getElem?_eq_getElem (by omega)⟩
        rw [hx, h1, h2] at hI
        have hmx := List.mem_of_getElem? hx
        exact ⟨x, hx, nOk_kid hm x hmx, (p6 x hmx).2, hI⟩
      have ends : (is || lf) = true → R = o' := fun h => by rw [hI, if_pos h]
      have key : ∀ {x : List UInt8}, m.keys[i]? = some x → (m.keys.map fun k => [encB k])[((i : Nat) : Int).toNat]? = some [encB x] := fun h => by rw [Int.toNat_natCast, List.getElem?_map, h]; rfl
      refine And.intro (fun q => ?_) (fun q => ?_) <;> (conv => whnf)
      · have q' : i < m.keys.length := by simpa using q
        obtain ⟨x, hx⟩ : ∃ y, m.keys[i]? = some y := ⟨_, List.getElem?_eq_getElem q'⟩
        obtain rfl : o' = some x := by rw [hso, hx]
        refine ⟨by omega, [encB x], key hx, rfl, ?_⟩
        conv => whnf
        refine And.intro (fun q1 => ?_) (fun q1 => ?_) <;> (conv => whnf)
        rotate_left
        · refine ⟨_, _, hcl _, True.intro, ?_⟩
          conv => whnf
          refine ⟨[], rfl, ?_⟩
          rw [ends (by simp [q1])]
          (repeat' (first | exact True.intro | exact rfl | refine And.intro ?_ ?_))
        · refine ⟨_, _, hlf _, True.intro, ?_⟩
          conv => whnf
          refine And.intro (fun q2 => ?_) (fun q2 => ?_) <;> (conv => whnf)
          · refine ⟨_, _, hcl _, True.intro, ?_⟩
            conv => whnf
            refine ⟨[], rfl, ?_⟩
            rw [ends (by simp [q2])]
            (repeat' (first | exact True.intro | exact rfl | refine And.intro ?_ ?_))
          · obtain ⟨y, hy, k1, k2, k3⟩ := kid (by simpa using q1) (by simpa using q2)
            refine ⟨by omega, [encKs y.keys, encCs y.chains, encNs y.kids], by show (m.kids.map cNode)[((i : Nat) : Int).toNat]? = _; rw [Int.toNat_natCast, List.getElem?_map, hy, Option.map_some, cNode_eq], rfl, ?_⟩
            conv => whnf
            refine ⟨(e, y, some x), [0], ⟨k1, ⟨1, k2⟩, ho', k3⟩, by show e < e + 1; omega, And.intro rfl (And.intro ?_ ?_)⟩
            all_goals (repeat' (first | exact True.intro | exact rfl | refine And.intro ?_ ?_))
      · have q' : ¬ i < m.keys.length := by simpa using q
        have hnone : m.keys[i]? = none := List.getElem?_eq_none (by omega)
        obtain rfl : o' = o := by rw [hso, hnone]
        refine And.intro (fun q1 => ?_) (fun q1 => ?_) <;> (conv => whnf)
        rotate_left
        · exact absurd (hlt q1) q'
        · refine ⟨_, _, hlf _, True.intro, ?_⟩
          conv => whnf
          refine And.intro (fun q2 => ?_) (fun q2 => ?_) <;> (conv => whnf)
          · refine ⟨_, _, hcl _, True.intro, ?_⟩
            conv => whnf
            refine ⟨[], rfl, ?_⟩
            rw [ends (by simp [q2])]
            (repeat' (first | exact True.intro | exact rfl | refine And.intro ?_ ?_))
          · obtain ⟨y, hy, k1, k2, k3⟩ := kid (by simpa using q1) (by simpa using q2)
            refine ⟨by omega, [encKs y.keys, encCs y.chains, encNs y.kids], by show (m.kids.map cNode)[((i : Nat) : Int).toNat]? = _; rw [Int.toNat_natCast, List.getElem?_map, hy, Option.map_some, cNode_eq], rfl, ?_⟩
            conv => whnf
            refine ⟨(e, y, o'), [0], ⟨k1, ⟨1, k2⟩, ho', k3⟩, by show e < e + 1; omega, And.intro rfl (And.intro ?_ ?_)⟩
            all_goals (repeat' (first | exact True.intro | exact rfl | refine And.intro ?_ ?_))
end Go.Proofs.Ve

/- The document's versions: which may be, which are the same; nodes that are small. -/
set_option maxRecDepth 100000
set_option maxHeartbeats 8000000
set_option linter.all false
namespace Go.Proofs.Ve
open Go
theorem d_rmay (x : Ver) (H : List (List Blk)) : CallEq X H 52 [pVer x] (.d (.bool (vMay x))) [] := by
  unfold vMay
  have e : decide (x.stamp ≤ 2147483647) = decide (x.stamp < 2147483648) := by
    by_cases h : x.stamp ≤ 2147483647
    · rw [decide_eq_true h, decide_eq_true (by omega)]
    · rw [decide_eq_false h, decide_eq_false (by omega)]
  rw [e]
  refine callEq_of_body X_ok rfl Try.func52 rfl ?_
  conv => whnf
  repeat' (first
    | (refine And.intro (fun h_ => ?_) (fun h_ => ?_) <;> (conv => whnf))
    | (intro z_ hz_; conv => whnf)
    | (refine ⟨[], rfl, ?_, True.intro⟩; (conv => whnf); (first | done | (simp_all only [refP, Bool.not_true, Bool.not_false, Bool.true_and, Bool.false_and, Bool.and_true, Bool.and_false, Bool.true_or, Bool.false_or, Bool.or_true, Bool.or_false, Bool.not_not, Bool.not_eq_true', Bool.not_eq_false', if_true, if_false, Bool.false_eq_true, Bool.true_eq_false, List.length_map]; done)))
    | fail)
def prevV (l : List Ver) (k : Nat) : Int := match k with | 0 => 0 | k + 1 => match l[k]? with | some x => x.stamp | none => 0
theorem d_rcheckV (l : List Ver) (hl : l.length < 1000000) (H : List (List Blk)) : CallEq X H 31 [.d (encVs l)] (.d (.bool (vsOk l))) [] := by
  refine callEq_of_body X_ok rfl Try.func31 rfl ?_
  conv => whnf
  refine loopV_of (fun i : Nat => ⟨[.d (encVs l), .any, .any, .d (.int .i64 i), .any, .any, .any, .any, .any, .any, .any, .any, .any, .any, .any, .any, .any, .any, .any, .any, .any, .any, .any, .any, .any, .any, .any, .any, .any, .any, .any, .any, .any, .any, .any, .any], []⟩)
    (fun i => i ≤ l.length ∧ vsOk l = vsF (prevV l i) (l.drop i)) (fun i => l.length - i) 0 [] ⟨Nat.zero_le _, rfl⟩ ?_ ?_
  · refine And.intro rfl (And.intro ?_ ?_)
    all_goals (repeat' (first | exact True.intro | exact rfl | refine And.intro ?_ ?_))
  · rintro k ⟨hk, hI⟩
    conv => whnf
    refine And.intro (fun h_ => ?_) (fun h_ => ?_)
    · conv => whnf
      have hk' : k < l.length := by simpa using h_
      obtain ⟨x, hx⟩ : ∃ x, l[k]? = some x := ⟨_, List.getElem?_eq_getElem hk'⟩
      have hst := vsF_at (a := prevV l k) hx
      have hm := fun H => d_rmay x H
      have hnx : prevV l (k + 1) = x.stamp := by show (match l[k]? with | some x => x.stamp | none => 0) = _; rw [hx]
      have hcond : (!vMay x || (decide ((k : Int) > 0) && decide (prevV l k ≥ x.stamp))) = (!vMay x || decide (x.stamp ≤ prevV l k)) := by
        cases hv : vMay x with
        | false => rfl
        | true =>
          cases k with
          | zero =>
            have : ¬ x.stamp ≤ 0 := by unfold vMay at hv; simp at hv; omega
            show (false || (decide ((0 : Int) > 0) && _)) = (false || decide (x.stamp ≤ 0))
            simp [this]
          | succ k =>
            have : ((k + 1 : Nat) : Int) > 0 := by omega
            rw [decide_eq_true this]; simp
      have hst : vsF (prevV l k) (l.drop k) = if (!vMay x || (decide ((k : Int) > 0) && decide (prevV l k ≥ x.stamp))) then false else vsF (prevV l (k + 1)) (l.drop (k + 1)) := by rw [hcond, hnx]; exact hst
      clear hcond hnx
      have hprev : k > 0 → ∃ y, l[k - 1]? = some y ∧ prevV l k = y.stamp := fun h => by
        cases k with
        | zero => omega
        | succ k =>
          obtain ⟨y, hy⟩ : ∃ x, l[k]? = some x := ⟨_, List.getElem?_eq_getElem (by omega)⟩
          exact ⟨y, hy, by show (match l[k]? with | some x => x.stamp | none => 0) = _; rw [hy]⟩
      have hI1 : (!vMay x || (decide ((k : Int) > 0) && decide (prevV l k ≥ x.stamp))) = true → vsOk l = false := fun h => by rw [hI, hst, if_pos h]
      have hI2 : (!vMay x || (decide ((k : Int) > 0) && decide (prevV l k ≥ x.stamp))) = false → vsOk l = vsF (prevV l (k + 1)) (l.drop (k + 1)) := fun h => by rw [hI, hst, if_neg (by rw [h]; exact Bool.false_ne_true)]
      clear hst hI
      generalize prevV l k = a at hI1 hI2 hprev
      generalize vMay x = b at hI1 hI2 hm
      have hget : (l.map cVer)[((k : Nat) : Int).toNat]? = some (cVer x) := by rw [Int.toNat_natCast, List.getElem?_map, hx]; rfl
      refine ⟨by omega, cVer x, hget, rfl, ?_⟩
      conv => whnf
      refine ⟨_, _, hm _, True.intro, ?_⟩
      conv => whnf
      have hge : (0 : Int) ≤ ((k : Nat) : Int) := by omega
      have hk1 : ((k : Nat) : Int) > 0 → k > 0 := fun h => by omega
      have hge1 : ((k : Nat) : Int) > 0 → (0 : Int) ≤ ((k : Nat) : Int) - 1 := fun h => by omega
      have hto : ((k : Nat) : Int) > 0 → (((k : Nat) : Int) - 1).toNat = k - 1 := fun h => by omega
      have hw1 : ((k : Nat) : Int) > 0 → IntKind.i64.wrap (((k : Nat) : Int) - 1) = ((k : Nat) : Int) - 1 := fun h => wrap_small (by omega) (by omega)
      have hw2 : IntKind.i64.wrap (((k : Nat) : Int) + 1) = ((k : Nat) : Int) + 1 := wrap_small (by omega) (by omega)
      have nxt : vsOk l = vsF (prevV l (k + 1)) (l.drop (k + 1)) → (k + 1 ≤ l.length ∧ vsOk l = vsF (prevV l (k + 1)) (l.drop (k + 1))) := fun h => ⟨hk', h⟩
      repeat' (first
        | (refine And.intro (fun q => ?_) (fun q => ?_) <;> (conv => whnf))
        | (refine ⟨[], rfl, ?_, True.intro⟩
           show DV.bool false = .bool (vsOk l)
           rw [hI1 (by simp_all)]
           done)
        | (refine ⟨hge, cVer x, hget, rfl, ?_⟩; conv => whnf)
        | (intro z hz; conv => whnf
           rw [hw2] at hz
           subst hz
           refine ⟨k + 1, [], nxt (hI2 (by simp_all)), by omega, And.intro rfl (And.intro ?_ ?_)⟩
           all_goals (repeat' (first | exact True.intro | exact rfl | refine And.intro ?_ ?_))
           done)
        | (intro z hz; conv => whnf
           rw [hw1 (of_decide_eq_true q)] at hz
           subst hz
           obtain ⟨y, hy, rfl⟩ := hprev (hk1 (of_decide_eq_true q))
           refine ⟨hge1 (of_decide_eq_true q), cVer y, by show (l.map cVer)[(((k : Nat) : Int) - 1).toNat]? = _; rw [hto (of_decide_eq_true q), List.getElem?_map, hy]; rfl, rfl, ?_⟩
           conv => whnf)
        | fail)
    · conv => whnf
      have hk' : k = l.length := by simp at h_; omega
      refine ⟨[], rfl, ?_, True.intro⟩
      show DV.bool true = .bool (vsOk l)
      rw [hI, hk', List.drop_length]; rfl
end Go.Proofs.Ve

/- Versions that are the same; nodes that are small. -/
set_option maxRecDepth 100000
set_option maxHeartbeats 8000000
set_option linter.all false
namespace Go.Proofs.Ve
open Go
def badV (x y : Ver) : Bool := ((x.stamp != y.stamp) || !(x.gone == y.gone)) || !(eqB x.val y.val)
def sameF {α : Type} (bad : α → α → Bool) : List α → List α → Bool
  | x :: xs, y :: ys => if bad x y then false else sameF bad xs ys
  | _, _ => true
theorem sameF_at {α : Type} {bad : α → α → Bool} {a b : List α} {k : Nat} {x y : α} (h : a[k]? = some x) (h' : b[k]? = some y) : sameF bad (a.drop k) (b.drop k) = if bad x y then false else sameF bad (a.drop (k + 1)) (b.drop (k + 1)) := by
  obtain ⟨hk, rfl⟩ := List.getElem?_eq_some_iff.1 h
  obtain ⟨hk', rfl⟩ := List.getElem?_eq_some_iff.1 h'
  rw [List.drop_eq_getElem_cons hk, List.drop_eq_getElem_cons hk']; rfl
def sameVs (a b : List Ver) : Bool := if ((a.length : Nat) : Int) != ((b.length : Nat) : Int) then false else sameF badV a b
theorem d_sameV (a b : List Ver) (ha : a.length < 1000000) (H : List (List Blk)) : CallEq X H 21 [.d (encVs a), .d (encVs b)] (.d (.bool (sameVs a b))) [] := by
  unfold sameVs
  refine callEq_of_body X_ok rfl Try.func21 rfl ?_
  conv => whnf
  refine And.intro (fun q => ?_) (fun q => ?_) <;> (conv => whnf)
  · refine ⟨[], rfl, ?_, True.intro⟩
    rw [if_pos (by simpa using q)]; (repeat' (first | exact True.intro | exact rfl | refine And.intro ?_ ?_))
  · have hab : a.length = b.length := by simp at q; omega
    rw [if_neg (by simpa using q)]
    clear q
    generalize hR : sameF badV a b = R
    refine loopV_of (fun i : Nat => ⟨[.d (encVs a), .d (encVs b), .any, .any, .any, .d (.int .i64 i), .any, .any, .any, .any, .any, .any, .any, .any, .any, .any, .any, .any, .any, .any, .any, .any, .any, .any, .any, .any, .any, .any, .any, .any, .any, .any, .any, .any, .any, .any, .any, .any, .any, .any, .any, .any, .any, .any, .any, .any, .any, .any, .any, .any, .any, .any, .any, .any, .any, .any], []⟩)
      (fun i => i ≤ a.length ∧ R = sameF badV (a.drop i) (b.drop i)) (fun i => a.length - i) 0 [] ⟨Nat.zero_le _, hR.symm⟩ ?_ ?_
    · refine And.intro rfl (And.intro ?_ ?_)
      all_goals (repeat' (first | exact True.intro | exact rfl | refine And.intro ?_ ?_))
    · rintro k ⟨hk, hI⟩
      conv => whnf
      refine And.intro (fun h_ => ?_) (fun h_ => ?_)
      · conv => whnf
        have hk' : k < a.length := by simpa using h_
        obtain ⟨x, hx⟩ : ∃ x, a[k]? = some x := ⟨_, List.getElem?_eq_getElem hk'⟩
        obtain ⟨y, hy⟩ : ∃ x, b[k]? = some x := ⟨_, List.getElem?_eq_getElem (by omega)⟩
        rw [sameF_at hx hy] at hI
        have hI1 : badV x y = true → R = false := fun h => by rw [hI, if_pos h]
        have hI2 : badV x y = false → (k + 1 ≤ a.length ∧ R = sameF badV (a.drop (k + 1)) (b.drop (k + 1))) := fun h => ⟨hk', by rw [hI, if_neg (by rw [h]; exact Bool.false_ne_true)]⟩
        clear hI
        have hge : (0 : Int) ≤ ((k : Nat) : Int) := by omega
        have hgx : (a.map cVer)[((k : Nat) : Int).toNat]? = some (cVer x) := by rw [Int.toNat_natCast, List.getElem?_map, hx]; rfl
        have hgy : (b.map cVer)[((k : Nat) : Int).toNat]? = some (cVer y) := by rw [Int.toNat_natCast, List.getElem?_map, hy]; rfl
        have hw2 : IntKind.i64.wrap (((k : Nat) : Int) + 1) = ((k : Nat) : Int) + 1 := wrap_small (by omega) (by omega)
        have ebad : badV x y = (((x.stamp != y.stamp) || !(x.gone == y.gone)) || !(eqB x.val y.val)) := rfl
        generalize badV x y = bd at hI1 hI2 ebad
        unfold eqB toBA at ebad
        repeat' (first
          | (refine And.intro (fun q => ?_) (fun q => ?_) <;> (conv => whnf))
          | (refine ⟨[], rfl, ?_, True.intro⟩
             rw [hI1 (by simp_all)]
             (repeat' (first | exact True.intro | exact rfl | refine And.intro ?_ ?_))
             done)
          | (refine ⟨hge, cVer x, hgx, rfl, ?_⟩; conv => whnf)
          | (refine ⟨hge, cVer y, hgy, rfl, ?_⟩; conv => whnf)
          | (refine ⟨x.val, rfl, ?_⟩; conv => whnf)
          | (refine ⟨y.val, rfl, ?_⟩; conv => whnf)
          | (intro z hz; conv => whnf
             rw [hw2] at hz
             subst hz
             refine ⟨k + 1, [], hI2 (by simp_all), by omega, And.intro rfl (And.intro ?_ ?_)⟩
             all_goals (repeat' (first | exact True.intro | exact rfl | refine And.intro ?_ ?_))
             done)
          | fail)
      · conv => whnf
        have hk' : k = a.length := by simp at h_; omega
        refine ⟨[], rfl, ?_, True.intro⟩
        show DV.bool true = .bool R
        rw [hI, hk', List.drop_length]; rfl
/-! ### nodes that are small -/
def okVal (x : Ver) : Bool := decide ((x.val.length : Int) ≤ 100)
def okChain (c : List Ver) : Bool := decide ((c.length : Int) ≤ 20) && c.all okVal
def smallN : Nat → Node → Bool
  | 0, _ => false
  | d + 1, n => (decide ((n.keys.length : Int) ≤ 6) && decide ((n.chains.length : Int) ≤ 6) && decide ((n.kids.length : Int) ≤ 6)) && ((n.keys.all fun k => decide ((k.length : Int) ≤ 100)) && (n.chains.all okChain && n.kids.all (smallN d)))
theorem all_tk {α : Type} {p : α → Bool} {l : List α} {k : Nat} {x : α} (h : l[k]? = some x) : (l.drop k).all p = (p x && (l.drop (k + 1)).all p) := by
  obtain ⟨hk, rfl⟩ := List.getElem?_eq_some_iff.1 h
  rw [List.drop_eq_getElem_cons hk, List.all_cons]
theorem all_end {α : Type} {p : α → Bool} {l : List α} {k : Nat} (h : l.length ≤ k) : (l.drop k).all p = true := by rw [List.drop_eq_nil_of_le h]; rfl
theorem d_Small : ∀ (d : Nat) (n : Node) (H : List (List Blk)), d < 100 → CallEq X H 36 [pNode n, .d (.int .i64 ((d : Int) - 1))] (.d (.bool (smallN d n))) [] := by
  intro d
  induction d with
  | zero =>
    intro n H _
    refine callEq_of_body X_ok rfl Try.func36 rfl ?_
    conv => whnf
    refine And.intro (fun q => ?_) (fun q => ?_) <;> (conv => whnf)
    · exact absurd q (by decide)
    · exact ⟨[], rfl, by (repeat' (first | exact True.intro | exact rfl | refine And.intro ?_ ?_))⟩
  | succ d ih =>
    intro n H hd
    have hkid : ∀ x H, CallEq X H 36 [pNode x, .d (.int .i64 ((d : Int) - 1))] (.d (.bool (smallN d x))) [] := fun x H => ih x H (by omega)
    have heq : smallN (d + 1) n = ((decide ((n.keys.length : Int) ≤ 6) && decide ((n.chains.length : Int) ≤ 6) && decide ((n.kids.length : Int) ≤ 6)) && ((n.keys.all fun k => decide ((k.length : Int) ≤ 100)) && (n.chains.all okChain && n.kids.all (smallN d)))) := rfl
    generalize smallN (d + 1) n = R at heq ⊢
    refine callEq_of_body X_ok rfl Try.func36 rfl ?_
    conv => whnf
    have e1 : ((n.keys.map fun k => [encB k]).length : Int) = n.keys.length := by rw [List.length_map]
    have e2 : ((n.chains.map fun k => [encVs k]).length : Int) = n.chains.length := by rw [List.length_map]
    have e3 : ((n.kids.map cNode).length : Int) = n.kids.length := by rw [List.length_map]
    have nokA : decide (((n.keys.map fun k => [encB k]).length : Int) > 6) = true → R = false := fun h => by
      have h := of_decide_eq_true h
      rw [e1] at h
      rw [heq, decide_eq_false (by omega : ¬ ((n.keys.length : Int) ≤ 6))]; rfl
    have nokB : decide (((n.chains.map fun k => [encVs k]).length : Int) > 6) = true → R = false := fun h => by
      have h := of_decide_eq_true h
      rw [e2] at h
      rw [heq, decide_eq_false (by omega : ¬ ((n.chains.length : Int) ≤ 6))]; simp
    have nokC : decide (((n.kids.map cNode).length : Int) > 6) = true → R = false := fun h => by
      have h := of_decide_eq_true h
      rw [e3] at h
      rw [heq, decide_eq_false (by omega : ¬ ((n.kids.length : Int) ≤ 6))]; simp
    have r0 : ¬ (((d + 1 : Nat) : Int) - 1 < 0) := by omega
    have hwd : IntKind.i64.wrap (((d + 1 : Nat) : Int) - 1 - 1) = (d : Int) - 1 := by rw [IntKind.wrap_i64]; omega
    repeat' (first
      | (refine And.intro (fun q => ?_) (fun q => ?_) <;> (conv => whnf))
      | (refine ⟨[], rfl, ?_, True.intro⟩
         first
           | exact absurd (of_decide_eq_true q) r0
           | (rw [nokA q]; exact rfl)
           | (rw [nokB q]; exact rfl)
           | (rw [nokC q]; exact rfl)
         done)
      | fail)
    rename_i q3 q2 q1
    have l1 : n.keys.length ≤ 6 := by have := of_decide_eq_false q2; omega
    have l2 : n.chains.length ≤ 6 := by have := of_decide_eq_false q1; omega
    have l3 : n.kids.length ≤ 6 := by have := of_decide_eq_false q; omega
    have heq : R = ((n.keys.all fun k => decide ((k.length : Int) ≤ 100)) && (n.chains.all okChain && n.kids.all (smallN d))) := by
      rw [heq, decide_eq_true (by omega : (n.keys.length : Int) ≤ 6), decide_eq_true (by omega : (n.chains.length : Int) ≤ 6), decide_eq_true (by omega : (n.kids.length : Int) ≤ 6)]; rfl
    clear nokA nokB nokC q1 q2 q3 q
    have hw : ∀ i : Nat, i < 1000 → IntKind.i64.wrap ((i : Int) + 1) = (i : Int) + 1 := fun i h => wrap_small (by omega) (by omega)
    refine loopV_of (fun i : Nat => ⟨[.any, .d (.int .i64 (((d + 1 : Nat) : Int) - 1)), .ptr 0 0 0, .any, .any, .d (.int .i64 i), .any, .any, .any, .any, .any, .any, .any, .any, .any, .any, .any, .any, .any, .any, .any, .any, .any, .any, .any, .any, .any, .any, .any, .any, .any, .any, .any, .any, .any, .any, .any, .any, .any, .any, .any, .any, .any, .any, .any, .any, .any, .any, .any, .any, .any, .any, .any, .any, .any, .any, .any, .any, .any, .any, .any, .any, .any, .any, .any, .any, .any, .any, .any, .any, .any, .any, .any, .any, .any, .any, .any, .any, .any, .any, .any, .any, .any, .any, .any, .any, .any, .any, .any, .any, .any, .any, .any, .any, .any, .any], [bNode n]⟩)
      (fun i => i ≤ n.keys.length ∧ R = (((n.keys.drop i).all fun k => decide ((k.length : Int) ≤ 100)) && (n.chains.all okChain && n.kids.all (smallN d)))) (fun i => n.keys.length - i) 0 [0] ⟨Nat.zero_le _, heq⟩ ?_ ?_
    · refine And.intro rfl (And.intro ?_ ?_)
      all_goals (repeat' (first | exact True.intro | exact rfl | refine And.intro ?_ ?_))
    · rintro i ⟨hi, hI⟩
      conv => whnf
      refine And.intro (fun q => ?_) (fun q => ?_) <;> (conv => whnf)
      · have hi' : i < n.keys.length := by simpa using q
        obtain ⟨x, hx⟩ : ∃ x, n.keys[i]? = some x := ⟨_, List.getElem?_eq_getElem hi'⟩
        rw [all_tk hx] at hI
        have ex : ((x.map fun b => [DV.int .u8 (b.toNat : Int)]).length : Int) = x.length := by rw [List.length_map]
        refine ⟨by omega, [encB x], by show (n.keys.map fun k => [encB k])[((i : Nat) : Int).toNat]? = _; rw [Int.toNat_natCast, List.getElem?_map, hx]; rfl, rfl, ?_⟩
        conv => whnf
        refine And.intro (fun q => ?_) (fun q => ?_) <;> (conv => whnf)
        · have q := of_decide_eq_true q
          rw [ex] at q
          refine ⟨[], rfl, ?_, True.intro⟩
          rw [hI, decide_eq_false (by omega : ¬ ((x.length : Int) ≤ 100))]; exact rfl
        · have q := of_decide_eq_false q
          rw [ex] at q
          rw [decide_eq_true (by omega : (x.length : Int) ≤ 100), Bool.true_and] at hI
          intro z hz
          conv => whnf
          rw [hw i (by omega)] at hz
          subst hz
          refine ⟨i + 1, [0], ⟨hi', hI⟩, by omega, And.intro rfl (And.intro ?_ ?_)⟩
          all_goals (repeat' (first | exact True.intro | exact rfl | refine And.intro ?_ ?_))
      · rw [all_end (by simp at q; omega), Bool.true_and] at hI
        clear q hi
        refine loopV_of (fun i : Nat => ⟨[.any, .d (.int .i64 (((d + 1 : Nat) : Int) - 1)), .ptr 0 0 0, .any, .any, .any, .d (.int .i64 i), .any, .any, .any, .any, .any, .any, .any, .any, .any, .any, .any, .any, .any, .any, .any, .any, .any, .any, .any, .any, .any, .any, .any, .any, .any, .any, .any, .any, .any, .any, .any, .any, .any, .any, .any, .any, .any, .any, .any, .any, .any, .any, .any, .any, .any, .any, .any, .any, .any, .any, .any, .any, .any, .any, .any, .any, .any, .any, .any, .any, .any, .any, .any, .any, .any, .any, .any, .any, .any, .any, .any, .any, .any, .any, .any, .any, .any, .any, .any, .any, .any, .any, .any, .any, .any, .any, .any, .any, .any], [bNode n]⟩)
          (fun i => i ≤ n.chains.length ∧ R = ((n.chains.drop i).all okChain && n.kids.all (smallN d))) (fun i => n.chains.length - i) 0 [0] ⟨Nat.zero_le _, hI⟩ ?_ ?_
        · refine And.intro rfl (And.intro ?_ ?_)
          all_goals (repeat' (first | exact True.intro | exact rfl | refine And.intro ?_ ?_))
        · clear hI heq
          clear i
          rintro i ⟨hi, hI⟩
          conv => whnf
          refine And.intro (fun q => ?_) (fun q => ?_) <;> (conv => whnf)
          · have hi' : i < n.chains.length := by simpa using q
            obtain ⟨c, hc⟩ : ∃ x, n.chains[i]? = some x := ⟨_, List.getElem?_eq_getElem hi'⟩
            rw [all_tk hc] at hI
            have ex : ((c.map cVer).length : Int) = c.length := by rw [List.length_map]
            have hgc : (n.chains.map fun c => [encVs c])[((i : Nat) : Int).toNat]? = some [encVs c] := by rw [Int.toNat_natCast, List.getElem?_map, hc]; rfl
            refine ⟨by omega, [encVs c], hgc, rfl, ?_⟩
            conv => whnf
            refine And.intro (fun q => ?_) (fun q => ?_) <;> (conv => whnf)
            · have q := of_decide_eq_true q
              rw [ex] at q
              refine ⟨[], rfl, ?_, True.intro⟩
              rw [hI]; unfold okChain; rw [decide_eq_false (by omega : ¬ ((c.length : Int) ≤ 20))]; exact rfl
            · have q := of_decide_eq_false q
              rw [ex] at q
              unfold okChain at hI
              rw [decide_eq_true (by omega : (c.length : Int) ≤ 20), Bool.true_and] at hI
              refine loopV_of (fun j : Nat => ⟨[.any, .d (.int .i64 (((d + 1 : Nat) : Int) - 1)), .ptr 0 0 0, .any, .any, .any, .d (.int .i64 i), .d (.int .i64 j), .any, .any, .any, .any, .any, .any, .any, .any, .any, .any, .any, .any, .any, .any, .any, .any, .any, .any, .any, .any, .any, .any, .any, .any, .any, .any, .any, .any, .any, .any, .any, .any, .any, .any, .any, .any, .any, .any, .any, .any, .any, .any, .any, .any, .any, .any, .any, .any, .any, .any, .any, .any, .any, .any, .any, .any, .any, .any, .any, .any, .any, .any, .any, .any, .any, .any, .any, .any, .any, .any, .any, .any, .any, .any, .any, .any, .any, .any, .any, .any, .any, .any, .any, .any, .any, .any, .any, .any], [bNode n]⟩)
                (fun j => j ≤ c.length ∧ R = (((c.drop j).all okVal && (n.chains.drop (i + 1)).all okChain) && n.kids.all (smallN d))) (fun j => c.length - j) 0 [0] ⟨Nat.zero_le _, hI⟩ ?_ ?_
              · refine And.intro rfl (And.intro ?_ ?_)
                all_goals (repeat' (first | exact True.intro | exact rfl | refine And.intro ?_ ?_))
              · clear hI
                rintro j ⟨hj, hI⟩
                conv => whnf
                refine ⟨by omega, [encVs c], hgc, rfl, ?_⟩
                conv => whnf
                refine And.intro (fun q => ?_) (fun q => ?_) <;> (conv => whnf)
                · have hj' : j < c.length := by simpa using q
                  obtain ⟨v, hv⟩ : ∃ x, c[j]? = some x := ⟨_, List.getElem?_eq_getElem hj'⟩
                  rw [all_tk hv] at hI
                  have ev : ((v.val.map fun b => [DV.int .u8 (b.toNat : Int)]).length : Int) = v.val.length := by rw [List.length_map]
                  refine ⟨by omega, [encVs c], hgc, rfl, ?_⟩
                  conv => whnf
                  refine ⟨by omega, cVer v, by show (c.map cVer)[((j : Nat) : Int).toNat]? = _; rw [Int.toNat_natCast, List.getElem?_map, hv]; rfl, rfl, ?_⟩
                  conv => whnf
                  refine And.intro (fun q => ?_) (fun q => ?_) <;> (conv => whnf)
                  · have q := of_decide_eq_true q
                    rw [ev] at q
                    refine ⟨[], rfl, ?_, True.intro⟩
                    rw [hI]; unfold okVal; rw [decide_eq_false (by omega : ¬ ((v.val.length : Int) ≤ 100))]; exact rfl
                  · have q := of_decide_eq_false q
                    rw [ev] at q
                    rw [show okVal v = true from decide_eq_true (by omega), Bool.true_and] at hI
                    intro z hz
                    conv => whnf
                    rw [hw j (by omega)] at hz
                    subst hz
                    refine ⟨j + 1, [0], ⟨hj', hI⟩, by omega, And.intro rfl (And.intro ?_ ?_)⟩
                    all_goals (repeat' (first | exact True.intro | exact rfl | refine And.intro ?_ ?_))
                · rw [all_end (by simp at q; omega), Bool.true_and] at hI
                  intro z hz
                  conv => whnf
                  rw [hw i (by omega)] at hz
                  subst hz
                  refine ⟨i + 1, [0], ⟨hi', hI⟩, by omega, And.intro rfl (And.intro ?_ ?_)⟩
                  all_goals (repeat' (first | exact True.intro | exact rfl | refine And.intro ?_ ?_))
          · rw [all_end (by simp at q; omega), Bool.true_and] at hI
            clear q hi
            refine loopV_of (fun i : Nat => ⟨[.any, .d (.int .i64 (((d + 1 : Nat) : Int) - 1)), .ptr 0 0 0, .any, .any, .any, .any, .any, .d (.int .i64 i), .any, .any, .any, .any, .any, .any, .any, .any, .any, .any, .any, .any, .any, .any, .any, .any, .any, .any, .any, .any, .any, .any, .any, .any, .any, .any, .any, .any, .any, .any, .any, .any, .any, .any, .any, .any, .any, .any, .any, .any, .any, .any, .any, .any, .any, .any, .any, .any, .any, .any, .any, .any, .any, .any, .any, .any, .any, .any, .any, .any, .any, .any, .any, .any, .any, .any, .any, .any, .any, .any, .any, .any, .any, .any, .any, .any, .any, .any, .any, .any, .any, .any, .any, .any, .any, .any, .any], [bNode n]⟩)
              (fun i => i ≤ n.kids.length ∧ R = (n.kids.drop i).all (smallN d)) (fun i => n.kids.length - i) 0 [0] ⟨Nat.zero_le _, hI⟩ ?_ ?_
            · refine And.intro rfl (And.intro ?_ ?_)
              all_goals (repeat' (first | exact True.intro | exact rfl | refine And.intro ?_ ?_))
            · clear hI
              clear i
              rintro i ⟨hi, hI⟩
              conv => whnf
              refine And.intro (fun q => ?_) (fun q => ?_) <;> (conv => whnf)
              · have hi' : i < n.kids.length := by simpa using q
                obtain ⟨x, hx⟩ : ∃ x, n.kids[i]? = some x := ⟨_, List.getElem?_eq_getElem hi'⟩
                rw [all_tk hx] at hI
                refine ⟨by omega, [encKs x.keys, encCs x.chains, encNs x.kids], by show (n.kids.map cNode)[((i : Nat) : Int).toNat]? = _; rw [Int.toNat_natCast, List.getElem?_map, hx, Option.map_some, cNode_eq], rfl, ?_⟩
                conv => whnf
                intro z hz
                conv => whnf
                rw [hwd] at hz
                subst hz
                have hk := hkid x
                generalize smallN d x = b at hk hI
                refine ⟨_, _, hk _, True.intro, ?_⟩
                conv => whnf
                refine And.intro (fun q => ?_) (fun q => ?_) <;> (conv => whnf)
                · obtain rfl : b = false := by simpa using q
                  refine ⟨[], rfl, ?_, True.intro⟩
                  rw [hI]; exact rfl
                · obtain rfl : b = true := by simpa using q
                  intro z hz
                  conv => whnf
                  rw [hw i (by omega)] at hz
                  subst hz
                  refine ⟨i + 1, [0], ⟨hi', hI⟩, by omega, And.intro rfl (And.intro ?_ ?_)⟩
                  all_goals (repeat' (first | exact True.intro | exact rfl | refine And.intro ?_ ?_))
              · rw [all_end (by simp at q; omega)] at hI
                refine ⟨[], rfl, ?_, True.intro⟩
                rw [hI]; exact rfl
end Go.Proofs.Ve

/- The document's form, and pairs, of a node. -/
set_option maxRecDepth 100000
set_option maxHeartbeats 8000000
set_option linter.all false
namespace Go.Proofs.Ve
open Go
def negD (z : Int) : Int := if z == 0 then -1 else z
theorem negD_lt {z : Int} (h : 0 ≤ z) : negD z < 0 ↔ z = 0 := by unfold negD; split <;> rename_i h' <;> simp at h' <;> omega
theorem negD_ne {y z : Int} (h : 0 ≤ y) (h' : 0 ≤ z) : (negD y != negD z) = (y != z) := by
  unfold negD
  rw [Bool.eq_iff_iff]
  simp only [bne_iff_ne, ne_eq, beq_iff_eq]
  split <;> split <;> omega
def leastB (b : Bool) : Int := if b then 0 else 1
theorem d_form : ∀ (m : Nat) (n : Node) (root : Bool) (H : List (List Blk)), m < 1000000 → nOk m n → CallEq X H 46 [pNode n, .d (.bool root)] (.d (.int .i64 (negD (deepN n (leastB root))))) [] := by
  intro m
  induction m with
  | zero => intro n root H _ h; exact h.elim
  | succ m ih =>
    intro n root H hm hn
    have b1 := nOk_keys hn
    have b2 := nOk_chains hn
    have b3 := nOk_kids hn
    have hkid : ∀ x ∈ n.kids, ∀ H, CallEq X H 46 [pNode x, .d (.bool false)] (.d (.int .i64 (negD (deepN x 1)))) [] := fun x hx H => ih x false H (by omega) (nOk_kid hn x hx)
    have heq := deepN_eq n (leastB root)
    have e1 : ((n.keys.map fun k => [encB k]).length : Int) = n.keys.length := by rw [List.length_map]
    have e2 : ((n.chains.map fun k => [encVs k]).length : Int) = n.chains.length := by rw [List.length_map]
    have e3 : ((n.kids.map cNode).length : Int) = n.kids.length := by rw [List.length_map]
    have hleast : decide ((n.keys.length : Int) < leastB root) = (!root && decide ((n.keys.length : Int) < 1)) := by
      cases root with
      | true => unfold leastB; simp
      | false => unfold leastB; simp
    rw [hleast] at heq
    generalize hD : deepN n (leastB root) = D at heq
    have hDn := deepN_le (m + 1) n (leastB root) hn
    rw [hD] at hDn
    generalize hR : negD D = R
    refine callEq_of_body X_ok rfl Try.func46 rfl ?_
    conv => whnf
    have bad : ((n.chains.length : Int) != n.keys.length || (decide ((n.keys.length : Int) > 3) || (!root && decide ((n.keys.length : Int) < 1)))) = true → R = -1 := fun h => by rw [← hR, heq, if_pos h]; rfl
    have leaf : ((n.chains.length : Int) != n.keys.length || (decide ((n.keys.length : Int) > 3) || (!root && decide ((n.keys.length : Int) < 1)))) = false → (((n.kids.map cNode).length : Int) == 0) = true → R = 1 := fun h h' => by
      have hk : n.kids = [] := by simpa using h'
      rw [← hR, heq, h, hk]; rfl
    repeat' (first
      | (refine And.intro (fun h3 => ?_) (fun h3 => ?_) <;> (conv => whnf))
      | (refine ⟨[], rfl, ?_, True.intro⟩
         rw [bad (by simp_all)]
         exact rfl
         done)
      | (refine ⟨[], rfl, ?_, True.intro⟩
         rw [leaf (by simp_all) h3]
         exact rfl
         done)
      | fail)
    all_goals
      have ok1 : ((n.chains.length : Int) != n.keys.length || (decide ((n.keys.length : Int) > 3) || (!root && decide ((n.keys.length : Int) < 1)))) = false := by simp_all
      have hne : n.kids ≠ [] := fun h => by rw [h] at h3; cases h3
      obtain ⟨x0, xs, hk⟩ : ∃ x0 xs, n.kids = x0 :: xs := by
        cases hk : n.kids with
        | nil => exact absurd hk hne
        | cons x0 xs => exact ⟨x0, xs, rfl⟩
      have heq : D = if (n.kids.length : Int) != n.keys.length + 1 || (n.keys.length : Int) == 0 then 0 else if (xs.map (deepN · 1)).any (fun x => x != deepN x0 1) then 0 else if deepN x0 1 == 0 then 0 else deepN x0 1 + 1 := by
        rw [heq, if_neg (by rw [ok1]; exact Bool.false_ne_true), hk]; rfl
      clear bad leaf h3
      intro z hz
      conv => whnf
      rw [wrap_small (by omega) (by omega)] at hz
      subst hz
      have bad2 : ((n.kids.length : Int) != n.keys.length + 1 || (n.keys.length : Int) == 0) = true → R = -1 := fun h => by rw [← hR, heq, if_pos h]; rfl
      have hlt : decide ((n.keys.length : Int) < 1) = ((n.keys.length : Int) == 0) := by
        rw [Bool.eq_iff_iff, decide_eq_true_iff, beq_iff_eq]; omega
      rw [← hlt] at bad2 heq
      repeat' (first
        | (refine And.intro (fun h4 => ?_) (fun h4 => ?_) <;> (conv => whnf))
        | (refine ⟨[], rfl, ?_, True.intro⟩
           rw [bad2 (by simp_all)]
           exact rfl
           done)
        | fail)
      have ok2 : ((n.kids.length : Int) != n.keys.length + 1 || decide ((n.keys.length : Int) < 1)) = false := by simp_all
      rw [if_neg (by rw [ok2]; exact Bool.false_ne_true)] at heq
      have hx0 := hkid x0 (by rw [hk]; exact List.mem_cons_self ..)
      have hd0 := deepN_le m x0 1 (nOk_kid hn x0 (by rw [hk]; exact List.mem_cons_self ..))
      refine ⟨by decide, [encKs x0.keys, encCs x0.chains, encNs x0.kids], by show (n.kids.map cNode)[0]? = _; rw [hk, List.map_cons, cNode_eq]; rfl, rfl, ?_⟩
      conv => whnf
      refine ⟨_, _, hx0 _, True.intro, ?_⟩
      conv => whnf
      generalize deepN x0 1 = d at heq hd0
      have hany : ∀ {j : Nat} {y : Node}, n.kids[j]? = some y → (n.kids.drop j).any (fun x => deepN x 1 != d) = (deepN y 1 != d || (n.kids.drop (j + 1)).any (fun x => deepN x 1 != d)) := fun h => any_tk h
      have hany0 : (xs.map (deepN · 1)).any (fun x => x != d) = (n.kids.drop 1).any (fun x => deepN x 1 != d) := by rw [hk, List.any_map]; rfl
      rw [hany0] at heq
      generalize hA : (n.kids.drop 1).any (fun x => deepN x 1 != d) = A at heq
      refine loopV_of (fun j : Nat => ⟨[.any, .any, .ptr 0 0 0, .any, .any, .d (.int .i64 (negD d)), .d (.int .i64 ((j + 1 : Nat) : Int)), .any, .any, .any, .any, .any, .any, .any, .any, .any, .any, .any, .any, .any, .any, .any, .any, .any, .any, .any, .any, .any, .any, .any, .any, .any, .any, .any, .any, .any, .any, .any, .any, .any, .any, .any, .any, .any, .any, .any, .any, .any, .any, .any, .any, .any, .any, .any, .any, .any, .any, .any, .any, .any, .any, .any, .any, .any, .any, .any, .any, .any, .any, .any, .any, .any], [bNode n]⟩)
        (fun j => j + 1 ≤ n.kids.length ∧ A = (n.kids.drop (j + 1)).any (fun x => deepN x 1 != d)) (fun j => n.kids.length - j) 0 [0] ⟨by rw [hk]; simp, hA.symm⟩ ?_ ?_
      · refine And.intro rfl (And.intro ?_ ?_)
        all_goals (repeat' (first | exact True.intro | exact rfl | refine And.intro ?_ ?_))
      · rintro j ⟨hj, hI⟩
        conv => whnf
        refine And.intro (fun q2 => ?_) (fun q2 => ?_)
        · conv => whnf
          have hj' : j + 1 < n.kids.length := by simp at q2; omega
          obtain ⟨y, hy⟩ : ∃ y, n.kids[j + 1]? = some y := ⟨_, List.getElem?_eq_getElem hj'⟩
          rw [hany hy] at hI
          have hym := List.mem_of_getElem? hy
          have hy1 := hkid y hym
          have hyd := deepN_le m y 1 (nOk_kid hn y hym)
          generalize deepN y 1 = e at hI hy1 hyd
          refine ⟨by omega, [encKs y.keys, encCs y.chains, encNs y.kids], by show (n.kids.map cNode)[((j + 1 : Nat) : Int).toNat]? = _; rw [Int.toNat_natCast, List.getElem?_map, hy, Option.map_some, cNode_eq], rfl, ?_⟩
          conv => whnf
          refine ⟨_, _, hy1 _, True.intro, ?_⟩
          conv => whnf
          refine And.intro (fun q3 => ?_) (fun q3 => ?_) <;> (conv => whnf)
          · rw [negD_ne hyd.1 hd0.1] at q3
            rw [q3, Bool.true_or] at hI
            refine ⟨[], rfl, ?_, True.intro⟩
            rw [← hR, heq, hI]; exact rfl
          · rw [negD_ne hyd.1 hd0.1] at q3
            rw [q3] at hI
            replace hI : A = (n.kids.drop (j + 1 + 1)).any (fun x => deepN x 1 != d) := hI
            intro z hz
            conv => whnf
            rw [wrap_small (by omega) (by omega)] at hz
            subst hz
            refine ⟨j + 1, [0], ⟨by omega, hI⟩, by omega, And.intro rfl (And.intro ?_ ?_)⟩
            all_goals (repeat' (first | exact True.intro | exact rfl | refine And.intro ?_ ?_))
        · conv => whnf
          have hj' : n.kids.length ≤ j + 1 := by simp at q2; omega
          rw [List.drop_eq_nil_of_le hj', List.any_nil] at hI
          rw [hI, if_neg Bool.false_ne_true] at heq
          refine And.intro (fun q3 => ?_) (fun q3 => ?_) <;> (conv => whnf)
          · have q3 := (negD_lt hd0.1).1 (of_decide_eq_true q3)
            refine ⟨[], rfl, ?_, True.intro⟩
            rw [← hR, heq, if_pos (by rw [q3]; rfl)]; exact rfl
          · have q3 : ¬ d = 0 := fun h => absurd ((negD_lt hd0.1).2 h) (of_decide_eq_false q3)
            have hnd : negD d = d := by unfold negD; rw [if_neg (by simpa using q3)]
            intro z hz
            conv => whnf
            rw [hnd, wrap_small (by omega) (by omega)] at hz
            subst hz
            refine ⟨[], rfl, ?_, True.intro⟩
            have : R = d + 1 := by
              rw [← hR, heq, if_neg (by simpa using q3)]; unfold negD
              rw [if_neg (by simp; omega)]
            rw [this]; exact rfl
end Go.Proofs.Ve

/- The document's pairs of a node. -/
set_option maxRecDepth 100000
set_option maxHeartbeats 8000000
set_option linter.all false
namespace Go.Proofs.Ve
open Go
def cKV (p : KV) : List DV := [encB p.1, encVs p.2]
theorem posD_mono (d : Nat) (n : Node) {i j : Nat} (h : i ≤ j) : posD d n i ≤ posD d n j := by
  induction h with
  | refl => exact Nat.le_refl _
  | step _ ih => rw [posD_succ]; omega
theorem allD_pos (d : Nat) (n : Node) : (allD (d + 1) n).length = posD d n (n.keys.length + 1) := rfl
def preD (d : Nat) (n : Node) (i : Nat) : List KV := (List.range i).flatMap (segD d n)
theorem preD_len (d : Nat) (n : Node) (i : Nat) : (preD d n i).length = posD d n i := rfl
theorem preD_succ (d : Nat) (n : Node) (i : Nat) : preD d n (i + 1) = preD d n i ++ kidD d n i ++ pairD n i := by
  unfold preD; rw [List.range_succ, List.flatMap_append]; simp [segD]
theorem d_rpairsR : ∀ (m : Nat) (n : Node) (H : List (List Blk)), m ≤ 16 → nOk m n → (∃ l, deepN n l ≠ 0) → CallEq X H 37 [pNode n] (.row 0 0 (allD m n).length) [⟨41, 2, (allD m n).map cKV⟩] := by
  intro m
  induction m with
  | zero => intro n H _ h; exact h.elim
  | succ m ih =>
    intro n H hm hn hdeep
    have hkid : ∀ {i : Nat} {x : Node}, n.kids[i]? = some x → deepN x 1 ≠ 0 → ∀ H, CallEq X H 37 [pNode x] (.d (.sl ((kidD m n i).map cKV))) [] := fun {i x} hx h H => by
      have e : kidD m n i = allD m x := by unfold kidD kidP; rw [hx]
      rw [e]
      refine (ih x H (by omega) (nOk_kid hn x (List.mem_of_getElem? hx)) ⟨1, h⟩).freeze 1 ?_
      show PV.d (.sl (((allD m x).map cKV).take (allD m x).length)) = _
      rw [List.take_of_length_le (by simp)]
    obtain ⟨least, hdeep⟩ := hdeep
    have hlen := allD_len (m + 1) n least hn hdeep
    have h4 := pow4 hm
    obtain ⟨p1, p2, p3, p4⟩ := deep_parts hdeep
    have hpos : ∀ i, i ≤ n.keys.length → posD m n (i + 1) < 4294967296 := fun i hi => by
      have := posD_mono m n (show i + 1 ≤ n.keys.length + 1 by omega)
      rw [allD_pos] at hlen; omega
    have hps : ∀ i, posD m n (i + 1) = posD m n i + (kidD m n i).length + (pairD n i).length := fun i => by rw [posD_succ]; unfold segD; rw [List.length_append]; omega
    have h2 : ∀ (l : List KV), ∀ y ∈ l.map cKV, y.length = 2 := fun l y hy => by simp only [List.mem_map] at hy; obtain ⟨_, _, rfl⟩ := hy; rfl
    have e3 : ((n.kids.map cNode).length : Int) = n.kids.length := by rw [List.length_map]
    have hlast : allD (m + 1) n = preD m n n.keys.length ++ kidD m n n.keys.length := by
      show preD m n (n.keys.length + 1) = _
      rw [preD_succ, show pairD n n.keys.length = [] from by unfold pairD; rw [List.getElem?_eq_none (Nat.le_refl _)], List.append_nil]
    generalize hA : allD (m + 1) n = A at hlast ⊢
    refine callEq_of_body X_ok rfl Try.func37 rfl ?_
    conv => whnf
    refine loopV_of (fun i : Nat => ⟨[.any, .ptr 0 0 0, .any, .row 0 1 ((preD m n i).map cKV).length, .d (.int .i64 i), .any, .any, .any, .any, .any, .any, .any, .any, .any, .any, .any, .any, .any, .any, .any, .any, .any, .any, .any, .any, .any, .any, .any, .any, .any, .any, .any, .any, .any, .any, .any, .any, .any, .any, .any, .any, .any, .any, .any, .any, .any, .any, .any, .any, .any, .any, .any, .any, .any], [bNode n, .row 41 2 ((preD m n i).map cKV)]⟩)
      (fun i => i ≤ n.keys.length) (fun i => n.keys.length - i) 0 [0, 1] (Nat.zero_le _) ?_ ?_
    · refine And.intro rfl (And.intro ?_ ?_)
      all_goals (repeat' (first | exact True.intro | exact rfl | refine And.intro ?_ ?_))
    · intro i hi
      have hsucc := preD_succ m n i
      have hl0 : ((preD m n i).map cKV).length = posD m n i := by rw [List.length_map, preD_len]
      have hp1 := hpos i hi
      have hp2 := hps i
      conv => whnf
      refine And.intro (fun q => ?_) (fun q => ?_) <;> (conv => whnf)
      · have hi' : i < n.keys.length := by simpa using q
        obtain ⟨ky, hky⟩ : ∃ y, n.keys[i]? = some y := ⟨_, List.getElem?_eq_getElem hi'⟩
        obtain ⟨ch, hch⟩ : ∃ y, n.chains[i]? = some y := ⟨_, List.getElem?_eq_getElem (by omega)⟩
        have hpd : pairD n i = [(ky, ch)] := by unfold pairD; rw [hky, hch]
        rw [hpd] at hsucc hp2
        have fk : (n.keys.map fun k => [encB k])[((i : Nat) : Int).toNat]? = some [encB ky] := by rw [Int.toNat_natCast, List.getElem?_map, hky]; rfl
        have fc : (n.chains.map fun c => [encVs c])[((i : Nat) : Int).toNat]? = some [encVs ch] := by rw [Int.toNat_natCast, List.getElem?_map, hch]; rfl
        have hge : (0 : Int) ≤ ((i : Nat) : Int) := by omega
        refine And.intro (fun q1 => ?_) (fun q1 => ?_) <;> (conv => whnf)
        · have hk0 : n.kids ≠ [] := fun h => by rw [h] at q1; exact absurd q1 (by decide)
          obtain ⟨p4, p5, p6⟩ : n.kids.length = n.keys.length + 1 ∧ n.keys.length ≠ 0 ∧ ∀ x ∈ n.kids, deepN x 1 + 1 = deepN n least ∧ deepN x 1 ≠ 0 := by
            rcases p4 with ⟨p4, _⟩ | p4
            · exact absurd p4 hk0
            · exact p4
          obtain ⟨x, hx⟩ : ∃ y, n.kids[i]? = some y := ⟨_, List.getElem?_eq_getElem (by omega)⟩
          refine ⟨hge, [encKs x.keys, encCs x.chains, encNs x.kids], by show (n.kids.map cNode)[((i : Nat) : Int).toNat]? = _; rw [Int.toNat_natCast, List.getElem?_map, hx, Option.map_some, cNode_eq], rfl, ?_⟩
          conv => whnf
          refine ⟨_, _, hkid hx (p6 x (List.mem_of_getElem? hx)).2 _, True.intro, ?_⟩
          conv => whnf
          refine ⟨h2 _, ?_⟩
          conv => whnf
          refine ⟨rfl, by show _ * 48 ≤ _; rw [hl0, List.length_map]; omega, ?_⟩
          conv => whnf
          refine ⟨hge, [encB ky], fk, rfl, ?_⟩
          conv => whnf
          refine ⟨hge, [encVs ch], fc, rfl, ?_⟩
          conv => whnf
          refine ⟨fun y hy => by simp at hy; subst hy; rfl, ?_⟩
          conv => whnf
          refine ⟨by rw [List.length_append], by show _ * 48 ≤ _; rw [hl0, List.length_map]; show (_ + _ + 1) * 48 ≤ _; simp at hp2; omega, ?_⟩
          conv => whnf
          intro z hz
          conv => whnf
          rw [wrap_small (by omega) (by omega)] at hz
          subst hz
          have hsm : (preD m n (i + 1)).map cKV = (preD m n i).map cKV ++ (kidD m n i).map cKV ++ [[encB ky, encVs ch]] := by rw [hsucc]; simp [cKV]
          refine ⟨i + 1, [0, 3], by omega, by omega, And.intro rfl (And.intro ?_ ?_)⟩
          all_goals rw [hsm]
          all_goals (repeat' (first | exact True.intro | exact rfl | refine And.intro ?_ ?_))
          show PV.row 0 3 _ = PV.row 0 3 _
          rw [List.length_append, List.length_append]
        · have hk0 : n.kids = [] := by simp at q1; exact q1
          have hkd : kidD m n i = [] := by unfold kidD kidP; rw [hk0]; rfl
          rw [hkd] at hsucc hp2
          refine ⟨hge, [encB ky], fk, rfl, ?_⟩
          conv => whnf
          refine ⟨hge, [encVs ch], fc, rfl, ?_⟩
          conv => whnf
          refine ⟨fun y hy => by simp at hy; subst hy; rfl, ?_⟩
          conv => whnf
          refine ⟨rfl, by show _ * 48 ≤ _; rw [hl0]; show (_ + 1) * 48 ≤ _; simp at hp2; omega, ?_⟩
          conv => whnf
          intro z hz
          conv => whnf
          rw [wrap_small (by omega) (by omega)] at hz
          subst hz
          have hsm : (preD m n (i + 1)).map cKV = (preD m n i).map cKV ++ [[encB ky, encVs ch]] := by rw [hsucc]; simp [cKV]
          refine ⟨i + 1, [0, 2], by omega, by omega, And.intro rfl (And.intro ?_ ?_)⟩
          all_goals rw [hsm]
          all_goals (repeat' (first | exact True.intro | exact rfl | refine And.intro ?_ ?_))
          show PV.row 0 2 _ = PV.row 0 2 _
          rw [List.length_append]
      · obtain rfl : i = n.keys.length := by simp at q; omega
        have hA2 : A.map cKV = (preD m n n.keys.length).map cKV ++ (kidD m n n.keys.length).map cKV := by rw [hlast, List.map_append]
        have hAl : A.length = (A.map cKV).length := by rw [List.length_map]
        rw [hAl]
        refine And.intro (fun q1 => ?_) (fun q1 => ?_) <;> (conv => whnf)
        · have hk0 : n.kids ≠ [] := fun h => by rw [h] at q1; exact absurd q1 (by decide)
          obtain ⟨p4, p5, p6⟩ : n.kids.length = n.keys.length + 1 ∧ n.keys.length ≠ 0 ∧ ∀ x ∈ n.kids, deepN x 1 + 1 = deepN n least ∧ deepN x 1 ≠ 0 := by
            rcases p4 with ⟨p4, _⟩ | p4
            · exact absurd p4 hk0
            · exact p4
          obtain ⟨x, hx⟩ : ∃ y, n.kids[n.keys.length]? = some y := ⟨_, List.getElem?_eq_getElem (by omega)⟩
          intro z hz
          conv => whnf
          rw [IntKind.wrap_i64] at hz
          obtain rfl : z = (n.keys.length : Int) := by rw [e3] at hz; omega
          clear hz
          refine ⟨by omega, [encKs x.keys, encCs x.chains, encNs x.kids], by show (n.kids.map cNode)[((n.keys.length : Nat) : Int).toNat]? = _; rw [Int.toNat_natCast, List.getElem?_map, hx, Option.map_some, cNode_eq], rfl, ?_⟩
          conv => whnf
          refine ⟨_, _, hkid hx (p6 x (List.mem_of_getElem? hx)).2 _, True.intro, ?_⟩
          conv => whnf
          refine ⟨h2 _, ?_⟩
          conv => whnf
          refine ⟨rfl, by show _ * 48 ≤ _; rw [hl0, List.length_map]; omega, ?_⟩
          conv => whnf
          refine ⟨[2], rfl, ?_⟩
          rw [hA2]
          (repeat' (first | exact True.intro | exact rfl | refine And.intro ?_ ?_))
          show PV.row 0 2 _ = PV.row 0 2 _
          rw [List.length_append]
        · have hk0 : n.kids = [] := by simp at q1; exact q1
          have hkd : kidD m n n.keys.length = [] := by unfold kidD kidP; rw [hk0]; rfl
          rw [hkd, List.map_nil, List.append_nil] at hA2
          refine ⟨[1], rfl, ?_⟩
          rw [hA2]
          (repeat' (first | exact True.intro | exact rfl | refine And.intro ?_ ?_))
theorem d_rpairs (m : Nat) (n : Node) (hm : m ≤ 16) (hn : nOk m n) (hd : ∃ l, deepN n l ≠ 0) (H : List (List Blk)) : CallEq X H 37 [pNode n] (.d (.sl ((allD m n).map cKV))) [] :=
  (d_rpairsR m n H hm hn hd).freeze 1 (by
    show PV.d (.sl (((allD m n).map cKV).take (allD m n).length)) = _
    rw [List.take_of_length_le (by simp)])
end Go.Proofs.Ve

/- Plain laws: texts' order. -/
set_option linter.all false
namespace Go.Proofs.Ve
open Go
/-! ### texts' order -/
def cm (a b : List UInt8) : Int := Go.Lib.compareBytes a b
theorem cm_nn : cm [] [] = 0 := rfl
theorem cm_nc (b : UInt8) (bs : List UInt8) : cm [] (b :: bs) = -1 := rfl
theorem cm_cn (a : UInt8) (ts : List UInt8) : cm (a :: ts) [] = 1 := rfl
theorem cm_cc (a b : UInt8) (ts bs : List UInt8) : cm (a :: ts) (b :: bs) = if a < b then -1 else if b < a then 1 else cm ts bs := rfl
theorem cmpB_eq (a b : List UInt8) : cmpB a b = cm a b := Go.Lib.cmp_eq _ _
theorem u8 {a b : UInt8} : a < b ↔ a.toNat < b.toNat := UInt8.lt_iff_toNat_lt
theorem u8_eq {a b : UInt8} (h1 : ¬ a < b) (h2 : ¬ b < a) : a = b := UInt8.toNat_inj.1 (by rw [u8] at h1 h2; omega)
theorem cm_flip : ∀ (a b : List UInt8), cm b a = - cm a b
  | [], [] => rfl
  | [], _ :: _ => rfl
  | _ :: _, [] => rfl
  | a :: ts, b :: bs => by
    rw [cm_cc, cm_cc]
    by_cases h1 : a < b
    · have h2 : ¬ b < a := by rw [u8] at h1 ⊢; omega
      rw [if_neg h2, if_pos h1, if_pos h1]; rfl
    · by_cases h2 : b < a
      · rw [if_pos h2, if_neg h1, if_pos h2]
      · rw [if_neg h1, if_neg h2, if_neg h2, if_neg h1, cm_flip ts bs]
theorem cm_eq : ∀ (a b : List UInt8), cm a b = 0 ↔ a = b
  | [], [] => by simp [cm_nn]
  | [], _ :: _ => by simp [cm_nc]
  | _ :: _, [] => by simp [cm_cn]
  | a :: ts, b :: bs => by
    rw [cm_cc]
    by_cases h1 : a < b
    · rw [if_pos h1]
      have : a ≠ b := fun e => by subst e; rw [u8] at h1; omega
      simp [this]
    · by_cases h2 : b < a
      · rw [if_neg h1, if_pos h2]
        have : a ≠ b := fun e => by subst e; rw [u8] at h2; omega
        simp [this]
      · rw [if_neg h1, if_neg h2, cm_eq ts bs]
        simp [u8_eq h1 h2]
theorem cm_self (a : List UInt8) : cm a a = 0 := (cm_eq a a).2 rfl
theorem cm_trans : ∀ (a b c : List UInt8), cm a b ≤ 0 → cm b c ≤ 0 → cm a c ≤ 0
  | [], _, [], _, _ => by simp [cm_nn]
  | [], _, _ :: _, _, _ => by simp [cm_nc]
  | _ :: _, [], _, h, _ => by simp [cm_cn] at h
  | _ :: _, _ :: _, [], _, h => by simp [cm_cn] at h
  | a :: ts, b :: bs, c :: cs, h, h' => by
    rw [cm_cc] at h h' ⊢
    by_cases h1 : a < b
    · by_cases h3 : b < c
      · rw [if_pos (by rw [u8] at *; omega)]; decide
      · by_cases h4 : c < b
        · rw [if_neg h3, if_pos h4] at h'; simp at h'
        · rw [← u8_eq h3 h4, if_pos h1]; decide
    · by_cases h2 : b < a
      · rw [if_neg h1, if_pos h2] at h; simp at h
      · have e := u8_eq h1 h2
        subst e
        rw [if_neg h1, if_neg h1] at h
        by_cases h3 : a < c
        · rw [if_pos h3]; decide
        · by_cases h4 : c < a
          · rw [if_neg h3, if_pos h4] at h'; simp at h'
          · rw [if_neg h3, if_neg h4] at h' ⊢
            exact cm_trans ts bs cs h h'
theorem cm_range (a b : List UInt8) : cm a b = -1 ∨ cm a b = 0 ∨ cm a b = 1 := by
  induction a generalizing b with
  | nil => cases b <;> simp [cm_nn, cm_nc]
  | cons x a ih =>
    cases b with
    | nil => simp [cm_cn]
    | cons y b =>
      rw [cm_cc]
      by_cases h1 : x < y
      · simp [h1]
      · by_cases h2 : y < x
        · simp [h1, h2]
        · rw [if_neg h1, if_neg h2]; exact ih b
theorem less_eq : ∀ (a b : List UInt8), Op.bytesLess a b = decide (cm a b < 0)
  | [], [] => rfl
  | [], _ :: _ => rfl
  | _ :: _, [] => rfl
  | a :: ts, b :: bs => by
    rw [Op.bytesLess, cm_cc, less_eq ts bs]
    by_cases h1 : a < b
    · simp [h1]
    · by_cases h2 : b < a
      · have : a ≠ b := fun e => by subst e; exact h1 h2
        simp [h1, h2, this]
      · simp [h1, h2, u8_eq h1 h2]
theorem toBA_list (a : List UInt8) : (toBA a).toList = a := by
  have : (toBA a).toList = (toBA a).data.toList := ByteArray.toList_eq _
  rw [this]; rfl
theorem ltB_eq (a b : List UInt8) : ltB a b = decide (cm a b < 0) := by unfold ltB; rw [toBA_list, toBA_list, less_eq]
theorem eqB_eq (a b : List UInt8) : eqB a b = decide (cm a b = 0) := by
  unfold eqB
  rw [toBA_list, toBA_list]
  by_cases h : a = b
  · subst h; simp [cm_self]
  · have : cm a b ≠ 0 := fun e => h ((cm_eq a b).1 e)
    simp [h, this]
end Go.Proofs.Ve

/- The document's answer: whether an index may be, its pairs, how deep it is. -/
set_option maxRecDepth 100000
set_option maxHeartbeats 8000000
set_option linter.all false
namespace Go.Proofs.Ve
open Go
theorem geq_eq (a b : List UInt8) : (!ltB a b) = decide (cmpB a b ≥ 0) := by
  rw [ltB_eq, cmpB_eq, Bool.eq_iff_iff]; simp
theorem d_rcheck (d : Nat) (n : Node) (hd : d ≤ 16) (hn : nOk d n) (H : List (List Blk)) : CallEq X H 23 [pNode n] (.d (.bool (checkN d n))) [] := by
  have hform := fun H => d_form d n true H (by omega) hn
  have hpairs := d_rpairs d n hd hn
  have heq : checkN d n = if deepN n 0 == 0 then false else chkL none (allD d n) := rfl
  have hmem := allD_mem d n hn
  have hlen := allD_len d n 0 hn
  have h0 := (deepN_le d n 0 hn).1
  have p4 := pow4 hd
  rw [show leastB true = 0 from rfl] at hform
  generalize checkN d n = R at heq ⊢
  have hex : deepN n 0 ≠ 0 → ∃ l, deepN n l ≠ 0 := fun h => ⟨0, h⟩
  generalize deepN n 0 = D at heq hform hlen h0 hex
  refine callEq_of_body X_ok rfl Try.func23 rfl ?_
  conv => whnf
  refine ⟨_, _, hform _, True.intro, ?_⟩
  conv => whnf
  refine And.intro (fun q => ?_) (fun q => ?_) <;> (conv => whnf)
  · have q := (negD_lt h0).1 (of_decide_eq_true q)
    rw [if_pos (by simpa using q)] at heq
    subst heq
    exact ⟨[], rfl, by (repeat' (first | exact True.intro | exact rfl | refine And.intro ?_ ?_))⟩
  · have q : ¬ D = 0 := fun h => absurd ((negD_lt h0).2 h) (of_decide_eq_false q)
    rw [if_neg (by simpa using q)] at heq
    have hlen := hlen q
    refine ⟨_, _, hpairs (hex q) _, True.intro, ?_⟩
    conv => whnf
    generalize allD d n = L at heq hmem hlen
    have eL : ((L.map cKV).length : Int) = L.length := by rw [List.length_map]
    refine loopV_of (fun i : Nat => ⟨[.any, .ptr 0 0 0, .any, .d (.sl (L.map cKV)), .d (.int .i64 i), .any, .any, .any, .any, .any, .any, .any, .any, .any, .any, .any, .any, .any, .any, .any, .any, .any, .any, .any, .any, .any, .any, .any, .any, .any, .any, .any, .any, .any, .any, .any, .any, .any, .any, .any, .any, .any, .any, .any, .any, .any, .any, .any, .any, .any, .any, .any, .any, .any, .any, .any, .any, .any, .any, .any, .any, .any, .any], [bNode n]⟩)
      (fun i => i ≤ L.length ∧ R = chkL (prevK L i) (L.drop i)) (fun i => L.length - i) 0 [0] ⟨Nat.zero_le _, heq⟩ ?_ ?_
    · refine And.intro rfl (And.intro ?_ ?_)
      all_goals (repeat' (first | exact True.intro | exact rfl | refine And.intro ?_ ?_))
    · rintro k ⟨hk, hI⟩
      conv => whnf
      refine And.intro (fun h_ => ?_) (fun h_ => ?_)
      · conv => whnf
        have hk' : k < L.length := by simpa using h_
        obtain ⟨p, hp⟩ : ∃ x, L[k]? = some x := ⟨_, List.getElem?_eq_getElem hk'⟩
        rw [chkL_at hp] at hI
        have hpm := hmem p (List.mem_of_getElem? hp)
        have hv := fun H => d_rcheckV p.2 (by omega) H
        have hnx : prevK L (k + 1) = some p.1 := by show L[k]?.map _ = _; rw [hp]; rfl
        rw [← hnx] at hI
        have hgp : (L.map cKV)[((k : Nat) : Int).toNat]? = some (cKV p) := by rw [Int.toNat_natCast, List.getElem?_map, hp]; rfl
        have hprev : ((k : Nat) : Int) > 0 → ∃ y : KV, L[k - 1]? = some y ∧ prevK L k = some y.1 := fun h => by
          cases k with
          | zero => exact absurd h (by decide)
          | succ k =>
            obtain ⟨y, hy⟩ : ∃ x, L[k]? = some x := ⟨_, List.getElem?_eq_getElem (by omega)⟩
            exact ⟨y, hy, by show L[k]?.map _ = _; rw [hy]; rfl⟩
        have hnone : ¬ ((k : Nat) : Int) > 0 → prevK L k = none := fun h => by
          cases k with
          | zero => rfl
          | succ k => exact absurd (by omega) h
        have el1 : ((p.2.map cVer).length : Int) = p.2.length := by rw [List.length_map]
        have el2 : ((p.1.map fun x => [DV.int .u8 (x.toNat : Int)]).length : Int) = p.1.length := by rw [List.length_map]
        have bad1 : vsOk p.2 = false → R = false := fun h => by rw [hI, if_pos (by unfold keyBad; rw [h]; simp)]
        have bad2 : (((p.2.map cVer).length : Int) == 0) = true → R = false := fun h => by rw [el1] at h; rw [hI, if_pos (by unfold keyBad; rw [h]; simp)]
        have bad3 : decide (((p.1.map fun x => [DV.int .u8 (x.toNat : Int)]).length : Int) > 16) = true → R = false := fun h => by rw [el2] at h; rw [hI, if_pos (by unfold keyBad; rw [h]; rfl)]
        have bad4 : ∀ {y : KV}, prevK L k = some y.1 → (!ltB y.1 p.1) = true → R = false := fun h h' => by
          rw [geq_eq] at h'
          rw [hI, if_pos (by unfold keyBad; rw [h]; simp [h'])]
        have good : ¬ ((k : Nat) : Int) > 0 ∨ (∃ y : KV, prevK L k = some y.1 ∧ (!ltB y.1 p.1) = false) → vsOk p.2 = true → (((p.2.map cVer).length : Int) == 0) = false → decide (((p.1.map fun x => [DV.int .u8 (x.toNat : Int)]).length : Int) > 16) = false →
            (k + 1 ≤ L.length ∧ R = chkL (prevK L (k + 1)) (L.drop (k + 1))) := fun h1 h2 h3 h4 => by
          refine ⟨hk', ?_⟩
          rw [el1] at h3
          rw [el2] at h4
          rw [hI, if_neg]
          unfold keyBad
          rw [h2, h3, h4]
          rcases h1 with h1 | ⟨y, h1, h5⟩
          · rw [hnone h1]; simp
          · rw [geq_eq] at h5
            rw [h1]; simpa using h5
        clear hI
        have hge : (0 : Int) ≤ ((k : Nat) : Int) := by omega
        have hge1 : ((k : Nat) : Int) > 0 → (0 : Int) ≤ ((k : Nat) : Int) - 1 := fun h => by omega
        have hto : ((k : Nat) : Int) > 0 → (((k : Nat) : Int) - 1).toNat = k - 1 := fun h => by omega
        have hw1 : ((k : Nat) : Int) > 0 → IntKind.i64.wrap (((k : Nat) : Int) - 1) = ((k : Nat) : Int) - 1 := fun h => wrap_small (by omega) (by omega)
        have hw2 : IntKind.i64.wrap (((k : Nat) : Int) + 1) = ((k : Nat) : Int) + 1 := wrap_small (by omega) (by omega)
        generalize vsOk p.2 = v at hv bad1 good
        refine ⟨hge, cKV p, hgp, rfl, ?_⟩
        conv => whnf
        refine ⟨_, _, hv _, True.intro, ?_⟩
        conv => whnf
        refine And.intro (fun q1 => ?_) (fun q1 => ?_) <;> (conv => whnf)
        rotate_left
        · refine ⟨[], rfl, ?_, True.intro⟩
          rw [bad1 (by simpa using q1)]
          (repeat' (first | exact True.intro | exact rfl | refine And.intro ?_ ?_))
        have q1 : v = true := by simpa using q1
        refine ⟨hge, cKV p, hgp, rfl, ?_⟩
        conv => whnf
        refine And.intro (fun q2 => ?_) (fun q2 => ?_) <;> (conv => whnf)
        rotate_left
        · refine ⟨[], rfl, ?_, True.intro⟩
          rw [bad2 q2]
          (repeat' (first | exact True.intro | exact rfl | refine And.intro ?_ ?_))
        refine ⟨hge, cKV p, hgp, rfl, ?_⟩
        conv => whnf
        refine And.intro (fun q3 => ?_) (fun q3 => ?_) <;> (conv => whnf)
        rotate_left
        · refine ⟨[], rfl, ?_, True.intro⟩
          rw [bad3 q3]
          (repeat' (first | exact True.intro | exact rfl | refine And.intro ?_ ?_))
        refine And.intro (fun q4 => ?_) (fun q4 => ?_) <;> (conv => whnf)
        · have q4 := of_decide_eq_true q4
          obtain ⟨y, hy, hpy⟩ := hprev q4
          have hbad4 := bad4 hpy
          have hgood := fun h => good (.inr ⟨y, hpy, h⟩) q1 q2 q3
          unfold ltB at hbad4 hgood
          intro z hz
          conv => whnf
          rw [hw1 q4] at hz
          subst hz
          refine ⟨hge1 q4, cKV y, by show (L.map cKV)[(((k : Nat) : Int) - 1).toNat]? = _; rw [hto q4, List.getElem?_map, hy]; rfl, rfl, ?_⟩
          conv => whnf
          refine ⟨y.1, rfl, ?_⟩
          conv => whnf
          refine ⟨hge, cKV p, hgp, rfl, ?_⟩
          conv => whnf
          refine ⟨p.1, rfl, ?_⟩
          conv => whnf
          refine And.intro (fun q5 => ?_) (fun q5 => ?_) <;> (conv => whnf)
          · refine ⟨[], rfl, ?_, True.intro⟩
            rw [hbad4 q5]
            (repeat' (first | exact True.intro | exact rfl | refine And.intro ?_ ?_))
          · intro z hz
            conv => whnf
            rw [hw2] at hz
            subst hz
            refine ⟨k + 1, [0], hgood q5, by omega, And.intro rfl (And.intro ?_ ?_)⟩
            all_goals (repeat' (first | exact True.intro | exact rfl | refine And.intro ?_ ?_))
        · have q4 := of_decide_eq_false q4
          intro z hz
          conv => whnf
          rw [hw2] at hz
          subst hz
          refine ⟨k + 1, [0], good (.inl q4) q1 q2 q3, by omega, And.intro rfl (And.intro ?_ ?_)⟩
          all_goals (repeat' (first | exact True.intro | exact rfl | refine And.intro ?_ ?_))
      · conv => whnf
        have hk' : k = L.length := by simp at h_; omega
        refine ⟨[], rfl, ?_, True.intro⟩
        show DV.bool true = .bool R
        rw [hI, hk', List.drop_length]; rfl
def pairsN (d : Nat) (n : Node) : List KV := if checkN d n then allD d n else []
theorem check_deep {d : Nat} {n : Node} (h : checkN d n = true) : deepN n 0 ≠ 0 := fun h' => by unfold checkN at h; rw [if_pos (by simp [h'])] at h; cases h
theorem d_Pairs (d : Nat) (n : Node) (hd : d ≤ 16) (hn : nOk d n) (H : List (List Blk)) : CallEq X H 14 [pNode n] (.d (.sl ((pairsN d n).map cKV))) [] := by
  have h1 := fun H => d_rcheck d n hd hn H
  have h2 := fun (h : checkN d n = true) H => d_rpairs d n hd hn ⟨0, check_deep h⟩ H
  unfold pairsN
  generalize checkN d n = R at h1 h2 ⊢
  refine callEq_of_body X_ok rfl Try.func14 rfl ?_
  conv => whnf
  refine ⟨_, _, h1 _, True.intro, ?_⟩
  conv => whnf
  refine And.intro (fun q => ?_) (fun q => ?_) <;> (conv => whnf)
  · obtain rfl : R = false := by simpa using q
    exact ⟨[], rfl, by (repeat' (first | exact True.intro | exact rfl | refine And.intro ?_ ?_))⟩
  · obtain rfl : R = true := by simpa using q
    refine ⟨_, _, h2 rfl _, True.intro, ?_⟩
    conv => whnf
    exact ⟨[], rfl, by (repeat' (first | exact True.intro | exact rfl | refine And.intro ?_ ?_))⟩
theorem d_Depth (d : Nat) (n : Node) (hd : d ≤ 16) (hn : nOk d n) (H : List (List Blk)) : CallEq X H 26 [pNode n] (.d (.int .i64 (depthN d n))) [] := by
  have h1 := fun H => d_rcheck d n hd hn H
  have h2 := fun H => d_form d n true H (by omega) hn
  have h3 := fun h => check_deep (d := d) (n := n) h
  rw [show leastB true = 0 from rfl] at h2
  unfold depthN
  generalize checkN d n = R at h1 h3 ⊢
  generalize deepN n 0 = D at h2 h3 ⊢
  refine callEq_of_body X_ok rfl Try.func26 rfl ?_
  conv => whnf
  refine ⟨_, _, h1 _, True.intro, ?_⟩
  conv => whnf
  refine And.intro (fun q => ?_) (fun q => ?_) <;> (conv => whnf)
  · obtain rfl : R = false := by simpa using q
    exact ⟨[], rfl, by (repeat' (first | exact True.intro | exact rfl | refine And.intro ?_ ?_))⟩
  · obtain rfl : R = true := by simpa using q
    refine ⟨_, _, h2 _, True.intro, ?_⟩
    conv => whnf
    refine ⟨[], rfl, ?_⟩
    have := h3 rfl
    unfold negD
    rw [if_neg (by simpa using this)]
    (repeat' (first | exact True.intro | exact rfl | refine And.intro ?_ ?_))
end Go.Proofs.Ve

/- The document's Find, Next, Same; the law's own helpers. -/
set_option maxRecDepth 100000
set_option maxHeartbeats 8000000
set_option linter.all false
namespace Go.Proofs.Ve
open Go
def findAt : List KV → List UInt8 → Nat → Int
  | [], _, _ => -1
  | p :: ps, k, i => if eqB p.1 k then (i : Int) else findAt ps k (i + 1)
theorem findAt_at {l : List KV} {k : List UInt8} {i : Nat} {p : KV} (h : l[i]? = some p) : findAt (l.drop i) k i = if eqB p.1 k then (i : Int) else findAt (l.drop (i + 1)) k (i + 1) := by
  obtain ⟨hk, rfl⟩ := List.getElem?_eq_some_iff.1 h
  rw [List.drop_eq_getElem_cons hk]; rfl
theorem d_rfind (l : List KV) (k : List UInt8) (hl : l.length < 4294967296) (H : List (List Blk)) : CallEq X H 16 [.d (.sl (l.map cKV)), .d (encB k)] (.d (.int .i64 (findAt l k 0))) [] := by
  generalize hR : findAt l k 0 = R
  refine callEq_of_body X_ok rfl Try.func16 rfl ?_
  conv => whnf
  refine loopV_of (fun i : Nat => ⟨[.d (.sl (l.map cKV)), .d (encB k), .any, .any, .any, .d (.int .i64 i), .any, .any, .any, .any, .any, .any, .any, .any, .any, .any, .any, .any, .any, .any, .any, .any], []⟩)
    (fun i => i ≤ l.length ∧ R = findAt (l.drop i) k i) (fun i => l.length - i) 0 [] ⟨Nat.zero_le _, hR.symm⟩ ?_ ?_
  · refine And.intro rfl (And.intro ?_ ?_)
    all_goals (repeat' (first | exact True.intro | exact rfl | refine And.intro ?_ ?_))
  · rintro i ⟨hi, hI⟩
    conv => whnf
    refine And.intro (fun q => ?_) (fun q => ?_) <;> (conv => whnf)
    · have hi' : i < l.length := by simpa using q
      obtain ⟨p, hp⟩ : ∃ x, l[i]? = some x := ⟨_, List.getElem?_eq_getElem hi'⟩
      rw [findAt_at hp] at hI
      unfold eqB toBA at hI
      refine ⟨by omega, cKV p, by show (l.map cKV)[((i : Nat) : Int).toNat]? = _; rw [Int.toNat_natCast, List.getElem?_map, hp]; rfl, rfl, ?_⟩
      conv => whnf
      refine ⟨p.1, rfl, ?_⟩
      conv => whnf
      refine ⟨k, rfl, ?_⟩
      conv => whnf
      refine And.intro (fun q1 => ?_) (fun q1 => ?_) <;> (conv => whnf)
      · rw [if_pos q1] at hI
        refine ⟨[], rfl, ?_, True.intro⟩
        rw [hI]; (repeat' (first | exact True.intro | exact rfl | refine And.intro ?_ ?_))
      · rw [if_neg (by intro h; rw [h] at q1; exact absurd q1 (by decide))] at hI
        intro z hz
        conv => whnf
        rw [wrap_small (by omega) (by omega)] at hz
        subst hz
        refine ⟨i + 1, [], ⟨by omega, hI⟩, by omega, And.intro rfl (And.intro ?_ ?_)⟩
        all_goals (repeat' (first | exact True.intro | exact rfl | refine And.intro ?_ ?_))
    · rw [List.drop_eq_nil_of_le (by simp at q; omega)] at hI
      refine ⟨[], rfl, ?_, True.intro⟩
      rw [hI]; exact rfl
def nextAt : List KV → List UInt8 → Nat → Nat
  | [], _, i => i
  | p :: ps, k, i => if ltB p.1 k then nextAt ps k (i + 1) else i
theorem nextAt_at {l : List KV} {k : List UInt8} {i : Nat} {p : KV} (h : l[i]? = some p) : nextAt (l.drop i) k i = if ltB p.1 k then nextAt (l.drop (i + 1)) k (i + 1) else i := by
  obtain ⟨hk, rfl⟩ := List.getElem?_eq_some_iff.1 h
  rw [List.drop_eq_getElem_cons hk]; rfl
theorem d_rnext (l : List KV) (k : List UInt8) (hl : l.length < 4294967296) (H : List (List Blk)) : CallEq X H 18 [.d (.sl (l.map cKV)), .d (encB k)] (.d (.int .i64 ((nextAt l k 0 : Nat) : Int))) [] := by
  generalize hR : nextAt l k 0 = R
  refine callEq_of_body X_ok rfl Try.func18 rfl ?_
  conv => whnf
  refine loopV_of (fun i : Nat => ⟨[.d (.sl (l.map cKV)), .d (encB k), .any, .any, .any, .d (.int .i64 i), .any, .any, .any, .any, .any, .any, .any, .any, .any, .any, .any, .any, .any, .any, .any, .any, .any, .any], []⟩)
    (fun i => i ≤ l.length ∧ R = nextAt (l.drop i) k i) (fun i => l.length - i) 0 [] ⟨Nat.zero_le _, hR.symm⟩ ?_ ?_
  · refine And.intro rfl (And.intro ?_ ?_)
    all_goals (repeat' (first | exact True.intro | exact rfl | refine And.intro ?_ ?_))
  · rintro i ⟨hi, hI⟩
    conv => whnf
    refine And.intro (fun q => ?_) (fun q => ?_) <;> (conv => whnf)
    · have hi' : i < l.length := by simpa using q
      obtain ⟨p, hp⟩ : ∃ x, l[i]? = some x := ⟨_, List.getElem?_eq_getElem hi'⟩
      rw [nextAt_at hp] at hI
      unfold ltB toBA at hI
      refine ⟨by omega, cKV p, by show (l.map cKV)[((i : Nat) : Int).toNat]? = _; rw [Int.toNat_natCast, List.getElem?_map, hp]; rfl, rfl, ?_⟩
      conv => whnf
      refine ⟨p.1, rfl, ?_⟩
      conv => whnf
      refine ⟨k, rfl, ?_⟩
      conv => whnf
      refine And.intro (fun q1 => ?_) (fun q1 => ?_) <;> (conv => whnf)
      · rw [if_pos q1] at hI
        intro z hz
        conv => whnf
        rw [wrap_small (by omega) (by omega)] at hz
        subst hz
        refine ⟨i + 1, [], ⟨by omega, hI⟩, by omega, And.intro rfl (And.intro ?_ ?_)⟩
        all_goals (repeat' (first | exact True.intro | exact rfl | refine And.intro ?_ ?_))
      · rw [if_neg (by intro h; rw [h] at q1; exact absurd q1 (by decide))] at hI
        refine ⟨[], rfl, ?_, True.intro⟩
        rw [hI]; exact rfl
    · have : i = l.length := by simp at q; omega
      rw [List.drop_eq_nil_of_le (by omega)] at hI
      refine ⟨[], rfl, ?_, True.intro⟩
      rw [hI]; exact rfl
def badP (p q : KV) : Bool := (!sameVs p.2 q.2) || !(eqB p.1 q.1)
def sameKV (a b : List KV) : Bool := if ((a.length : Nat) : Int) != ((b.length : Nat) : Int) then false else sameF badP a b
theorem d_same (a b : List KV) (ha : a.length < 4294967296) (hm : ∀ p ∈ a, p.2.length < 100000) (H : List (List Blk)) : CallEq X H 19 [.d (.sl (a.map cKV)), .d (.sl (b.map cKV))] (.d (.bool (sameKV a b))) [] := by
  unfold sameKV
  refine callEq_of_body X_ok rfl Try.func19 rfl ?_
  conv => whnf
  refine And.intro (fun q => ?_) (fun q => ?_) <;> (conv => whnf)
  · refine ⟨[], rfl, ?_, True.intro⟩
    rw [if_pos (by simpa using q)]; (repeat' (first | exact True.intro | exact rfl | refine And.intro ?_ ?_))
  · have hab : a.length = b.length := by simp at q; omega
    rw [if_neg (by simpa using q)]
    clear q
    generalize hR : sameF badP a b = R
    refine loopV_of (fun i : Nat => ⟨[.d (.sl (a.map cKV)), .d (.sl (b.map cKV)), .any, .any, .any, .d (.int .i64 i), .any, .any, .any, .any, .any, .any, .any, .any, .any, .any, .any, .any, .any, .any, .any, .any, .any, .any, .any, .any, .any, .any, .any, .any, .any, .any, .any, .any, .any, .any, .any, .any, .any, .any, .any, .any, .any, .any, .any, .any], []⟩)
      (fun i => i ≤ a.length ∧ R = sameF badP (a.drop i) (b.drop i)) (fun i => a.length - i) 0 [] ⟨Nat.zero_le _, hR.symm⟩ ?_ ?_
    · refine And.intro rfl (And.intro ?_ ?_)
      all_goals (repeat' (first | exact True.intro | exact rfl | refine And.intro ?_ ?_))
    · rintro k ⟨hk, hI⟩
      conv => whnf
      refine And.intro (fun h_ => ?_) (fun h_ => ?_)
      · conv => whnf
        have hk' : k < a.length := by simpa using h_
        obtain ⟨x, hx⟩ : ∃ x, a[k]? = some x := ⟨_, List.getElem?_eq_getElem hk'⟩
        obtain ⟨y, hy⟩ : ∃ x, b[k]? = some x := ⟨_, List.getElem?_eq_getElem (by omega)⟩
        have hs := fun H => d_sameV x.2 y.2 (by have := hm x (List.mem_of_getElem? hx); omega) H
        rw [sameF_at hx hy] at hI
        have hI1 : badP x y = true → R = false := fun h => by rw [hI, if_pos h]
        have hI2 : badP x y = false → (k + 1 ≤ a.length ∧ R = sameF badP (a.drop (k + 1)) (b.drop (k + 1))) := fun h => ⟨hk', by rw [hI, if_neg (by rw [h]; exact Bool.false_ne_true)]⟩
        clear hI
        have hge : (0 : Int) ≤ ((k : Nat) : Int) := by omega
        have hgx : (a.map cKV)[((k : Nat) : Int).toNat]? = some (cKV x) := by rw [Int.toNat_natCast, List.getElem?_map, hx]; rfl
        have hgy : (b.map cKV)[((k : Nat) : Int).toNat]? = some (cKV y) := by rw [Int.toNat_natCast, List.getElem?_map, hy]; rfl
        have hw2 : IntKind.i64.wrap (((k : Nat) : Int) + 1) = ((k : Nat) : Int) + 1 := wrap_small (by omega) (by omega)
        have ebad : badP x y = ((!sameVs x.2 y.2) || !(eqB x.1 y.1)) := rfl
        rw [ebad] at hI1 hI2
        clear ebad
        unfold eqB toBA at hI1 hI2
        generalize sameVs x.2 y.2 = sv at hI1 hI2 hs
        refine ⟨hge, cKV x, hgx, rfl, ?_⟩
        conv => whnf
        refine ⟨hge, cKV y, hgy, rfl, ?_⟩
        conv => whnf
        refine ⟨_, _, hs _, True.intro, ?_⟩
        conv => whnf
        refine And.intro (fun q => ?_) (fun q => ?_) <;> (conv => whnf)
        · refine ⟨hge, cKV x, hgx, rfl, ?_⟩
          conv => whnf
          refine ⟨x.1, rfl, ?_⟩
          conv => whnf
          refine ⟨hge, cKV y, hgy, rfl, ?_⟩
          conv => whnf
          refine ⟨y.1, rfl, ?_⟩
          conv => whnf
          refine And.intro (fun q1 => ?_) (fun q1 => ?_) <;> (conv => whnf)
          · refine ⟨[], rfl, ?_, True.intro⟩
            have := hI1 (by rw [q]; exact q1)
            rw [this]; (repeat' (first | exact True.intro | exact rfl | refine And.intro ?_ ?_))
          · have := hI2 (by rw [q]; exact q1)
            intro z hz
            conv => whnf
            rw [hw2] at hz
            subst hz
            refine ⟨k + 1, [], this, by omega, And.intro rfl (And.intro ?_ ?_)⟩
            all_goals (repeat' (first | exact True.intro | exact rfl | refine And.intro ?_ ?_))
        · refine ⟨[], rfl, ?_, True.intro⟩
          have := hI1 (by rw [show (!sv) = true from q]; rfl)
          rw [this]; (repeat' (first | exact True.intro | exact rfl | refine And.intro ?_ ?_))
      · conv => whnf
        have hk' : k = a.length := by simp at h_; omega
        refine ⟨[], rfl, ?_, True.intro⟩
        show DV.bool true = .bool R
        rw [hI, hk', List.drop_length]; rfl
end Go.Proofs.Ve

/- The law's own helpers. -/
set_option maxRecDepth 100000
set_option maxHeartbeats 8000000
set_option linter.all false
namespace Go.Proofs.Ve
open Go
theorem d_keys (d : Nat) (n : Node) (hd : d ≤ 16) (hn : nOk d n) (H : List (List Blk)) : CallEq X H 35 [pNode n] (.d (encKs (keysN d n))) [] :=
  (d_keysR d n hd hn H).freeze 1 (by
    show PV.d (.sl ((rowK (keysN d n)).take (keysN d n).length)) = _
    rw [List.take_of_length_le (by unfold rowK; rw [List.length_map]; exact Nat.le_refl _)]; rfl)
theorem d_small0 (n : Node) (H : List (List Blk)) : CallEq X H 13 [pNode n, .d (.sl [])] (.d (.bool (smallN 5 n))) [] := by
  have h := fun H => d_Small 5 n H (by decide)
  refine callEq_of_body X_ok rfl Try.func13 rfl ?_
  conv => whnf
  refine And.intro (fun q => ?_) (fun q => ?_) <;> (conv => whnf)
  · exact absurd q (by decide)
  · refine loopV_of (fun i : Nat => ⟨[.any, .d (.sl []), .ptr 0 0 0, .any, .any, .d (.int .i64 0), .any, .any, .any, .any, .any, .any, .any, .any, .any, .any, .any, .any, .any, .any, .any, .any, .any, .any], [bNode n]⟩) (fun i => True) (fun i => i) 0 [0] trivial ?_ ?_
    · refine And.intro rfl (And.intro ?_ ?_)
      all_goals (repeat' (first | exact True.intro | exact rfl | refine And.intro ?_ ?_))
    · intro i _
      conv => whnf
      refine And.intro (fun q => ?_) (fun q => ?_) <;> (conv => whnf)
      · exact absurd q (by decide)
      · refine ⟨_, _, h _, True.intro, ?_⟩
        conv => whnf
        exact ⟨[], rfl, by (repeat' (first | exact True.intro | exact rfl | refine And.intro ?_ ?_))⟩
def lawPairs (d : Nat) (n : Node) : List KV := (keysN d n).map fun k => (k, (findA d n k).getD [])
theorem d_lawPairs (d : Nat) (n : Node) (hd : d ≤ 16) (hn : nOk d n) (H : List (List Blk)) : CallEq X H 20 [pNode n] (.d (.sl ((lawPairs d n).map cKV))) [] := by
  have hk := fun H => d_keys d n hd hn H
  have hf := fun k H => d_find d n k hd hn H
  have hl : (keysN d n).length < 4294967296 := by
    unfold keysN
    split
    · rename_i h
      rw [List.length_map]; exact check_len hd hn h
    · decide
  have main : CallEq X H 20 [pNode n] (.row 0 0 (lawPairs d n).length) [⟨41, 2, (lawPairs d n).map cKV⟩] := by
    have hLL : (lawPairs d n).length = (keysN d n).length := by unfold lawPairs; rw [List.length_map]
    have hget : ∀ {i : Nat} {k : List UInt8}, (keysN d n)[i]? = some k → ((lawPairs d n).take (i + 1)).map cKV = ((lawPairs d n).take i).map cKV ++ [[encB k, encVs ((findA d n k).getD [])]] := fun {i k} h => by
      have : (lawPairs d n)[i]? = some (k, (findA d n k).getD []) := by unfold lawPairs; rw [List.getElem?_map, h]; rfl
      rw [tk_snoc this]; simp [cKV]
    generalize hL : lawPairs d n = L at hLL hget ⊢
    generalize keysN d n = ks at hk hl hLL hget
    refine callEq_of_body X_ok rfl Try.func20 rfl ?_
    conv => whnf
    refine ⟨_, _, hk _, True.intro, ?_⟩
    conv => whnf
    have eK : ((ks.map fun k => [encB k]).length : Int) = ks.length := by rw [List.length_map]
    refine loopV_of (fun i : Nat => ⟨[.any, .ptr 0 0 0, .any, .row 0 1 ((L.take i).map cKV).length, .d (encKs ks), .d (.int .i64 i), .any, .any, .any, .any, .any, .any, .any, .any, .any, .any, .any, .any, .any, .any, .any, .any, .any, .any, .any, .any, .any, .any, .any, .any, .any, .any, .any, .any, .any], [bNode n, .row 41 2 ((L.take i).map cKV)]⟩)
      (fun i => i ≤ ks.length) (fun i => ks.length - i) 0 [0, 1] (Nat.zero_le _) ?_ ?_
    · refine And.intro rfl (And.intro ?_ ?_)
      all_goals (repeat' (first | exact True.intro | exact rfl | refine And.intro ?_ ?_))
    · intro i hi
      have hlt : ((L.take i).map cKV).length = i := by rw [List.length_map, List.length_take]; omega
      conv => whnf
      refine And.intro (fun q => ?_) (fun q => ?_) <;> (conv => whnf)
      · have hi' : i < ks.length := by simpa using q
        obtain ⟨k, hkk⟩ : ∃ x, ks[i]? = some x := ⟨_, List.getElem?_eq_getElem hi'⟩
        have hs := hget hkk
        have hf := hf k
        unfold ansV at hf
        have hgk : (ks.map fun k => [encB k])[((i : Nat) : Int).toNat]? = some [encB k] := by rw [Int.toNat_natCast, List.getElem?_map, hkk]; rfl
        generalize findA d n k = o at hs hf
        refine ⟨by omega, [encB k], hgk, rfl, ?_⟩
        conv => whnf
        refine ⟨_, _, hf _, True.intro, ?_⟩
        conv => whnf
        refine ⟨by omega, [encB k], hgk, rfl, ?_⟩
        conv => whnf
        refine ⟨fun y hy => by simp at hy; subst hy; rfl, ?_⟩
        conv => whnf
        refine ⟨rfl, by show _ * 48 ≤ _; rw [hlt]; show (_ + 1) * 48 ≤ _; omega, ?_⟩
        conv => whnf
        intro z hz
        conv => whnf
        rw [wrap_small (by omega) (by omega)] at hz
        subst hz
        refine ⟨i + 1, [0, 2], by omega, by omega, And.intro rfl (And.intro ?_ ?_)⟩
        all_goals rw [hs]
        all_goals (repeat' (first | exact True.intro | exact rfl | refine And.intro ?_ ?_))
        show PV.row 0 2 _ = PV.row 0 2 _
        rw [List.length_append]
      · obtain rfl : i = ks.length := by simp at q; omega
        have ht : L.take ks.length = L := List.take_of_length_le (by omega)
        rw [ht]
        refine ⟨[1], rfl, ?_⟩
        (repeat' (first | exact True.intro | exact rfl | refine And.intro ?_ ?_))
        show PV.row 0 1 _ = PV.row 0 1 _
        rw [List.length_map]
  exact main.freeze 1 (by
    show PV.d (.sl (((lawPairs d n).map cKV).take (lawPairs d n).length)) = _
    rw [List.take_of_length_le (by simp)])
theorem smallN_ok : ∀ (d : Nat) (n : Node), smallN d n = true → nOk d n
  | 0, n, h => by cases h
  | d + 1, n, h => by
    simp only [smallN, Bool.and_eq_true, decide_eq_true_eq, List.all_eq_true] at h
    obtain ⟨⟨⟨h1, h2⟩, h3⟩, h4, h5, h6⟩ := h
    refine ⟨by omega, by omega, by omega, fun x hx => by have := h4 x hx; omega, fun y hy => ?_, fun x hx => smallN_ok d x (h6 x hx)⟩
    have := h5 y hy
    simp only [okChain, Bool.and_eq_true, decide_eq_true_eq, List.all_eq_true] at this
    obtain ⟨g1, g2⟩ := this
    refine ⟨by omega, fun v hv => ?_⟩
    have := g2 v hv
    simp only [okVal, decide_eq_true_eq] at this
    omega
end Go.Proofs.Ve

/- Insert, Delete: contracts. -/
set_option maxRecDepth 100000
set_option linter.all false
namespace Go.Proofs.Ve
open Go Go.Proofs Go.Shelf Go.RowKit Go.Lib
/-- A row that was given comes back as a new name: turned in place, or a new block. -/
theorem give_row {m : M} {H : List (List Blk)} {e sz : Nat} {xs xs' : List (List DV)} {v v' : Value} (hinv : Inv m [.row e sz xs] H) (hρ : m.ρ 0 0 = some v) (hfree : ∀ i, 1 ≤ i → m.ρ 0 i = none) {w' : World} {flat : List Value} (hxs : ∀ x ∈ xs', x.length = sz)
    (hown : w'.ownsRow 0 e sz v' xs'.length flat) (hgr : m.w.grownBy w' (blkOf v)) (hat : blkOf v' = blkOf v ∨ blkOf v' = some m.w.heap.size)
    (hc : ∀ (i : Nat) x (j : Nat) y u, xs'[i]? = some x → x[j]? = some y → flat[i * sz + j]? = some u → RD m.w m.ok y u) :
    ∃ m', m'.w = w' ∧ Since (M0.of m [.row e sz xs]) m' [.row e sz xs', .dead] ∧ m'.ρ 0 1 = m.ρ 0 0 ∧ Inv m' [.row e sz xs', .dead] H ∧ m'.ρ 0 0 = some v' := by
  obtain ⟨h0, _⟩ := hinv.blk 0 0 _ rfl v hρ
  have hvU : ∀ k, blkOf v = some k → m.U k := fun k hk => hinv.own 0 0 _ v k rfl rfl hρ hk
  have mine : ∀ k, blkOf v = some k → Mine m [.row e sz xs] k := fun k hk => ⟨0, _, v, rfl, rfl, hρ, hk⟩
  have hv' : ∀ k, blkOf v' = some k → k < w'.heap.size ∧ (m.U k ∧ blkOf v = some k ∨ k = m.w.heap.size) := fun k hk => by
    refine ⟨?_, ?_⟩
    · rcases hown.2 with ⟨b, _⟩ | ⟨g, cap, cur, b1, _, b3, _⟩
      · rw [b] at hk; cases hk
      · rw [b1] at hk; cases hk; exact (Array.getElem?_eq_some_iff.1 b3).1
    · rcases hat with h | h
      · rw [h] at hk; exact .inl ⟨hvU k hk, hk⟩
      · rw [h] at hk; cases hk; exact .inr rfl
  let m' : M := ⟨w', fun l i => match l with | 0 => if i = 0 then some v' else if i = 1 then m.ρ 0 0 else none | l + 1 => m.ρ (l + 1) i, fun k => m.U k ∨ blkOf v' = some k⟩
  have h00 : m'.ρ 0 0 = some v' := rfl
  have h01 : m'.ρ 0 1 = m.ρ 0 0 := rfl
  have hup : ∀ l i, m'.ρ (l + 1) i = m.ρ (l + 1) i := fun _ _ => rfl
  have hUold : ∀ k, k < m.w.heap.size → (m'.U k ↔ m.U k) := fun k hk => ⟨fun h => by
    rcases h with h | h
    · exact h
    · rcases (hv' k h).2 with ⟨h, _⟩ | h
      · exact h
      · omega, .inl⟩
  have hne : ∀ k, m.U k → (blkOf v ≠ some k) → w'.heap[k]? = m.w.heap[k]? := fun k hk hne => hgr.block k (hinv.lt k hk) (fun h => hne h.symm)
  have okk : ∀ k, m.ok k → m'.ok k ∧ w'.heap[k]? = m.w.heap[k]? := fun k hk => by
    refine ⟨⟨Nat.lt_of_lt_of_le hk.1 hgr.size, fun h => hk.2 ((hUold k hk.1).1 h)⟩, hgr.block k hk.1 (fun h => hk.2 (hvU k h.symm))⟩
  have get : ∀ l i b, getB [.row e sz xs', .dead] H l i = some b → b.live = true → (l = 0 ∧ i = 0 ∧ b = .row e sz xs') ∨ (∃ l', l = l' + 1 ∧ getB [.row e sz xs] H l i = some b) := by
    intro l i b hb hl
    cases l with
    | zero =>
      match i, hb with
      | 0, hb => simp [getB] at hb; exact .inl ⟨rfl, rfl, hb.symm⟩
      | 1, hb => simp [getB] at hb; subst hb; cases hl
      | i + 2, hb => simp [getB] at hb
    | succ l => exact .inr ⟨l, rfl, hb⟩
  -- other frames' blocks are none of these
  have far : ∀ l i b u k, getB [.row e sz xs] H (l + 1) i = some b → b.live = true → m.ρ (l + 1) i = some u → blkOf u = some k → blkOf v ≠ some k ∧ blkOf v' ≠ some k := fun l i b u k hb hl hu hk => by
    have hU := hinv.own (l + 1) i b u k hb hl hu hk
    have h1 : blkOf v ≠ some k := fun h => by
      have := (hinv.inj (l + 1) i b 0 0 _ u v k hb hl rfl rfl hu hρ hk h).1
      cases this
    refine ⟨h1, fun h => ?_⟩
    rcases (hv' k h).2 with ⟨_, h⟩ | h
    · exact h1 h
    · have := hinv.lt k hU; omega
  have hK : Keep ⟨m.w, fun l i => match l with | 0 => none | l + 1 => m.ρ (l + 1) i, m.U⟩ m' := ⟨fun l i u hu => by
    cases l with
    | zero => cases hu
    | succ l => exact hu, hgr.size, fun k hk => ⟨(okk k hk).1.2, (okk k hk).2⟩⟩
  refine ⟨m', rfl, ⟨hgr.os, hgr.tape, hgr.output, hgr.size, fun k hk hn _ => hgr.block k hk (fun h => hn (mine k h.symm)), fun _ _ => rfl, fun k hk => hUold k hk, fun k ⟨j, b, u, hb, hl, hu, hk⟩ => ?_⟩, h01, ⟨fun l i b hb => ?_, fun l i b l' i' b' u u' k h1 h2 h3 h4 h5 h6 h7 h8 => ?_, fun l i b u k h1 h2 h3 h4 => ?_, fun k hk => ?_⟩, h00⟩
  · match j, hb, hu with
    | 0, hb, hu =>
      change m'.ρ 0 0 = some u at hu
      rw [h00] at hu; cases hu
      rcases (hv' k hk).2 with ⟨_, h⟩ | h
      · exact .inr (mine k h)
      · exact .inl (by rw [h]; exact Nat.le_refl _)
    | 1, hb, hu => simp at hb; subst hb; cases hl
    | j + 2, hb, hu => simp at hb
  · cases hlv : b.live with
    | false => cases b <;> first | (simp [Blk.live] at hlv; done) | trivial
    | true =>
      rcases get l i b hb hlv with ⟨rfl, rfl, rfl⟩ | ⟨l', rfl, hb'⟩
      · intro u hu
        change m'.ρ 0 0 = some u at hu
        rw [h00] at hu; cases hu
        exact ⟨h0, hxs, flat, hown, fun i x j y u hx hy hu => (hc i x j y u hx hy hu).mono okk⟩
      · have hb2 := hinv.blk (l' + 1) i b hb'
        have hb3 : BlkOk ⟨m.w, fun l i => match l with | 0 => none | l + 1 => m.ρ (l + 1) i, m.U⟩ (l' + 1) i b := by
          cases b with
          | dead => trivial
          | gen Y st => trivial
          | row e sz xs => exact hb2
          | box cs =>
            intro u hu
            obtain ⟨g, us, t, q1, q2, q3, q4⟩ := hb2 u hu
            refine ⟨g, us, t, q1, q2, q3, fun j p x hp hx => (q4 j p x hp hx).keep ?_⟩
            exact ⟨fun a i u hu => by
              show (match a + (l' + 1) with | 0 => none | l + 1 => m.ρ (l + 1) i) = some u
              exact hu, Nat.le_refl _, fun k hk => ⟨hk.2, rfl⟩⟩
        exact hb3.keep hK (hup l' i) (fun u k hl hu hk => hne k (hinv.own _ i b u k hb' hl hu hk) (far l' i b u k hb' hl hu hk).1)
  · rcases get l i b h1 h2 with ⟨rfl, rfl, rfl⟩ | ⟨a, rfl, hb⟩ <;> rcases get l' i' b' h3 h4 with ⟨rfl, rfl, rfl⟩ | ⟨a', rfl, hb'⟩
    · exact ⟨rfl, rfl⟩
    · exfalso
      change m'.ρ 0 0 = some u at h5
      rw [h00] at h5; cases h5
      exact (far a' i' b' u' k hb' h4 h6 h8).2 h7
    · exfalso
      change m'.ρ 0 0 = some u' at h6
      rw [h00] at h6; cases h6
      exact (far a i b u k hb h2 h5 h7).2 h8
    · exact hinv.inj _ i b _ i' b' u u' k hb h2 hb' h4 h5 h6 h7 h8
  · rcases get l i b h1 h2 with ⟨rfl, rfl, rfl⟩ | ⟨a, rfl, hb⟩
    · change m'.ρ 0 0 = some u at h3
      rw [h00] at h3; cases h3; exact .inr h4
    · exact .inl (hinv.own _ i b u k hb h2 h3 h4)
  · rcases hk with hk | hk
    · exact Nat.lt_of_lt_of_le (hinv.lt k hk) hgr.size
    · exact (hv' k hk).1
theorem own_blk (v : Value) : v.ownBlock = blkOf v ∨ ∃ a, v = .pointer (some a) := by
  unfold Value.ownBlock blkOf
  split
  · exact .inl rfl
  · rename_i h
    split
    · exact .inr ⟨_, rfl⟩
    · exact absurd rfl (h _ _ _)
    · exact .inl rfl
theorem own_slice (A : Option Addr) (n c : Nat) : (Value.slice A n c).ownBlock = blkOf (.slice A n c) := by cases A <;> rfl
theorem ins_eq {ρ : Ren} {zr : Value} (L : InsL X.P ρ zr) (xs : List (List DV)) (hx : ∀ x ∈ xs, x.length = 1) (i : Nat) (hi : i ≤ xs.length) (y : DV) (hbig : xs.length < 1000000) (H : List (List Blk)) :
    CallEqG X H (ρ.f 22) [⟨ρ.t 9, 1, xs⟩] [.row 0 0 xs.length, .d (.int .i64 i), .d (.sl [[y]])] [none] (.row 0 0 (xs.length + 1)) [⟨ρ.t 9, 1, xs.take i ++ [[y]] ++ xs.drop i⟩] := by
  unfold CallEqG
  refine ⟨rfl, fun m vs hinv hfree hlen hargs => ?_⟩
  obtain ⟨v0, v1, v2, rfl⟩ : ∃ v0 v1 v2, vs = #[v0, v1, v2] := by
    match vs, hlen with
    | ⟨[a, b, c]⟩, _ => exact ⟨a, b, c, rfl⟩
  have a0 := hargs 0 _ v0 rfl rfl
  have a1 := hargs 1 _ v1 rfl rfl
  have a2 := hargs 2 _ v2 rfl rfl
  cases a1 with
  | d _ _ a1 =>
  cases a1
  cases a2 with
  | d _ _ a2 =>
  cases a2 with
  | sl sz _ A2 n2 c2 ad u hn2 hc2 hm2 hA2 hs2 hcell2 hr2 =>
  obtain rfl : n2 = 1 := by simpa using hn2.symm
  obtain rfl := hA2 (by decide)
  have hsz : sz = 1 := by have := hs2 [y] (by simp); simpa using this.symm
  subst hsz
  obtain ⟨hok, hcell⟩ := hcell2 0 [y] 0 y rfl rfl
  have hry := hr2 0 [y] 0 y rfl rfl
  obtain ⟨vb, voff, sp⟩ := ad
  cases sp with
  | some s =>
    exfalso
    have : (m.w.cell? ((⟨vb, voff, some s⟩ : Addr).add 0)) = none := by
      unfold World.cell? Addr.add
      simp
      split <;> rfl
    rw [Nat.zero_mul, Nat.add_zero, this] at hcell; cases hcell
  | none =>
  rw [Addr.add_lit] at hcell
  simp only [Nat.zero_mul, Nat.add_zero] at hcell hry
  cases a0 with
  | row _ _ _ Nn c A hρ hn hc =>
    have hb := hinv.blk 0 0 _ rfl _ hρ
    obtain ⟨h0, _, flat, hown, hrd⟩ := hb
    change m.w.ownsRow 0 (ρ.t 9) 1 (.slice A Nn c) xs.length flat at hown
    change ∀ (i : Nat) x (j : Nat) y u, xs[i]? = some x → x[j]? = some y → flat[i * 1 + j]? = some u → RD m.w m.ok y u at hrd
    have hNn : Nn = xs.length := by
      rcases hown.2 with ⟨b, b'⟩ | ⟨g, cap, cur, b1, _⟩
      · cases b; exact b'.symm
      · cases b1; rfl
    subst hNn
    have hfl : flat.length = xs.length := by have := hown.1; omega
    have hvU : ∀ k, blkOf (.slice A xs.length c) = some k → m.U k := fun k hk => hinv.own 0 0 _ _ k rfl rfl hρ hk
    have hflat : ∀ (j : Nat) u, flat[j]? = some u → ∃ y, xs[j]? = some [y] ∧ RD m.w m.ok y u := fun j u hu => by
      have hj : j < xs.length := by have := (List.getElem?_eq_some_iff.1 hu).1; omega
      obtain ⟨x, hxj⟩ : ∃ x, xs[j]? = some x := ⟨_, List.getElem?_eq_getElem hj⟩
      have hl := hx x (List.mem_of_getElem? hxj)
      match x, hl with
      | [y], _ => exact ⟨y, hxj, hrd j [y] 0 y u hxj rfl (by rw [Nat.mul_one, Nat.add_zero]; exact hu)⟩
    refine (ins_own L (.slice A xs.length c) xs.length i 1 flat [u 0] vb voff c2 m.w hown hi (by decide) rfl (by omega) (fun w hw => ?_) (fun w hw => ?_) (fun j w hw => ?_) (fun h => ?_)).mono ?_
    · obtain ⟨j, hj⟩ := List.getElem?_of_mem hw
      obtain ⟨y, _, h⟩ := hflat j w hj
      exact h.one
    · simp at hw; subst hw; exact hry.one
    · cases j with
      | zero => simp at hw; subst hw; exact hcell
      | succ j => simp at hw
    · rw [own_slice] at h
      exact hok.2 (hvU vb h)
    · rintro e w' ⟨v', rfl, hown', hgr, hat⟩
      have hv'b : v'.ownBlock = blkOf v' := by
        rcases hown'.2 with ⟨b, _⟩ | ⟨g, cap, cur, b1, _⟩
        · rw [b]; rfl
        · rw [b1]; rfl
      rw [own_slice] at hgr hat
      rw [hv'b] at hat
      have hlen' : (xs.take i ++ [[y]] ++ xs.drop i).length = xs.length + 1 := by simp; omega
      have hall : ∀ x ∈ xs.take i ++ [[y]] ++ xs.drop i, x.length = 1 := fun x hxm => by
        simp only [List.mem_append, List.mem_singleton] at hxm
        rcases hxm with (h | h) | h
        · exact hx x (List.mem_of_mem_take h)
        · rw [h]; rfl
        · exact hx x (List.mem_of_mem_drop h)
      obtain ⟨m', e1, e2, e3, e4, e5⟩ := give_row (xs' := xs.take i ++ [[y]] ++ xs.drop i) (v' := v') hinv hρ hfree hall (by rw [hlen']; exact hown') hgr hat (fun k x j z u' hk hj hu => by
        have hxl := hall x (List.mem_of_getElem? hk)
        obtain rfl : j = 0 := by have := (List.getElem?_eq_some_iff.1 hj).1; omega
        rw [Nat.mul_one, Nat.add_zero, ins_get (m := 1) (by omega) rfl] at hu
        rw [ins_get (m := 1) hi rfl] at hk
        by_cases h1 : k < i
        · rw [if_pos h1] at hu hk
          obtain ⟨q, hq, hr⟩ := hflat k u' hu
          rw [hq] at hk; cases hk; simp at hj; subst hj; exact hr
        · rw [if_neg h1] at hu hk
          by_cases h2 : k < i + 1
          · rw [if_pos h2] at hu hk
            obtain rfl : k = i := by omega
            simp at hu hk
            subst hk; subst hu; simp at hj; subst hj
            exact hry
          · rw [if_neg h2] at hu hk
            obtain ⟨q, hq, hr⟩ := hflat (k - 1) u' hu
            rw [hq] at hk; cases hk; simp at hj; subst hj; exact hr)
      refine ⟨v', m', rfl, e1, e2, fun i hi => ?_, e4, ?_⟩
      · obtain rfl : i = 0 := by simpa using hi
        exact e3
      · rcases hown'.2 with ⟨b, b'⟩ | ⟨g, cap, cur, b1, _, _, b2, _⟩
        · omega
        · subst b1
          exact .row 0 0 _ _ _ _ e5 (Nat.le_refl _) b2
/-! ### Delete -/
abbrev OneV := { v : Value // v.oneCell' = true }
def zeroV : OneV := ⟨.slice none 0 0, rfl⟩
instance : Inhabited OneV := ⟨zeroV⟩
theorem holds_flat {w : World} {g : Nat} {cur : Array Value} {e : TypeId} {xs : List OneV} (hg : w.heap[g]? = some (.cells cur e (0, 0))) (h : ∀ j, j < xs.length → cur[j]? = (xs[j]?).map (·.1)) : Go.Sort.Holds (Subtype.val : OneV → Value) w g 0 xs.toArray := by
  intro j hj
  have hj' : j < xs.length := by simpa using hj
  refine ⟨?_, frozen_none hg _⟩
  rw [cell_at hg, Nat.zero_add, h j hj', List.getElem?_eq_getElem hj']
  simp [hj']
theorem del_own {P : Program} {ρ : Ren} (L : SlLaysE.n45 P ρ) (v23 : ∀ w, (zeroValue (ρ.t 23)).run P w = .ok (.slice none 0 0) w) (i0 : TypeInfo) (hi0 : P.info? (ρ.t 23) = some i0) (hz1 : i0.size = 1) (g n cap i j : Nat) (cur : Array Value) (xs : List OneV) (w : World)
    (hg : w.heap[g]? = some (.cells cur (ρ.t 23) (0, 0))) (hn : xs.length = n) (h1 : n ≤ cap) (h2 : cap ≤ maxLen) (h3 : cur.size = cap) (h4 : cur.toList.take n = xs.map (·.1)) (hij : i ≤ j) (hj : j ≤ n) :
    Calls P (ρ.f 45) #[.slice (some ⟨g, 0, none⟩) n cap, .int .i64 i, .int .i64 j] w fun e w' => e = .returned (.slice (some ⟨g, 0, none⟩) (n - (j - i)) cap) ∧
      w'.ownsRow 0 (ρ.t 23) 1 (.slice (some ⟨g, 0, none⟩) n cap) n ((xs.take i ++ xs.drop j ++ List.replicate (j - i) zeroV).map (fun x : OneV => x.1)) ∧ w.grownBy w' (some g) := by
  have hcur : ∀ k, k < n → cur[k]? = (xs[k]?).map (·.1) := fun k hk => by
    have := congrArg (fun l => l[k]?) h4
    simpa [List.getElem?_take, hk] using this
  have hH := holds_flat hg (fun k hk => hcur k (by omega))
  have hsz : xs.toArray.size = n := by simpa using hn
  have := AnyE.slices_Delete L (Subtype.val : OneV → Value) (fun x => x.2) zeroV v23 i0 hi0 hz1 g 0 cap i j xs.toArray w hH (by omega) (Nat.le_trans h2 (by unfold maxLen; decide)) hij (by omega)
  rw [hsz] at this
  refine this.mono ?_
  rintro e w' ⟨rfl, q, hw⟩
  generalize hys : xs.take i ++ xs.drop j ++ List.replicate (j - i) zeroV = ys
  have hyl : ys.length = n := by rw [← hys]; simp; omega
  have hys' : (xs.toArray.toList.take i ++ xs.toArray.toList.drop j ++ List.replicate (j - i) zeroV).toArray = ys.toArray := by rw [← hys]
  rw [hys', putRow_eq_setCells (Subtype.val : OneV → Value) w g 0 xs.toArray ys q hH (by omega)] at hw
  obtain ⟨cur', c1, c2, c3⟩ := setCells_block (ys.map (·.1)) 0 (w.drewN q) cur hg
  obtain ⟨o1, o2, o3, o4, o5⟩ := setCells_rest g (ys.map (·.1)) 0 (w.drewN q)
  rw [← hw] at c1 o1 o2 o3 o4 o5
  refine ⟨rfl, ⟨by simp [hyl], .inr ⟨g, cap, cur', rfl, Nat.zero_le _, c1, h1, h2, by omega, ?_⟩⟩, ⟨o1, o2, o3, Nat.le_of_eq o4.symm, fun k hk hne => o5 k (fun e => hne (by rw [e]))⟩⟩
  apply List.ext_getElem?
  intro k
  rw [List.getElem?_take, Nat.mul_one]
  by_cases hk : k < n
  · rw [if_pos hk, Array.getElem?_toList, c3 k, if_pos (by rw [List.length_map]; omega), Nat.sub_zero]
  · rw [if_neg hk, List.getElem?_eq_none (by rw [List.length_map]; omega)]
theorem del_eq {ρ : Ren} (L : SlLaysE.n45 X.P ρ) (v23 : ∀ w, (zeroValue (ρ.t 23)).run X.P w = .ok (.slice none 0 0) w) (i0 : TypeInfo) (hi0 : X.P.info? (ρ.t 23) = some i0) (hz1 : i0.size = 1) (xs : List (List DV)) (hx : ∀ x ∈ xs, x.length = 1) (i j : Nat) (hij : i ≤ j) (hj : j ≤ xs.length) (h0 : 0 < xs.length) (H : List (List Blk)) :
    CallEqG X H (ρ.f 45) [⟨ρ.t 23, 1, xs⟩] [.row 0 0 xs.length, .d (.int .i64 i), .d (.int .i64 j)] [none] (.row 0 0 (xs.length - (j - i))) [⟨ρ.t 23, 1, xs.take i ++ xs.drop j ++ List.replicate (j - i) [.sl []]⟩] := by
  unfold CallEqG
  refine ⟨rfl, fun m vs hinv hfree hlen hargs => ?_⟩
  obtain ⟨v0, v1, v2, rfl⟩ : ∃ v0 v1 v2, vs = #[v0, v1, v2] := by
    match vs, hlen with
    | ⟨[a, b, c]⟩, _ => exact ⟨a, b, c, rfl⟩
  have a0 := hargs 0 _ v0 rfl rfl
  have a1 := hargs 1 _ v1 rfl rfl
  have a2 := hargs 2 _ v2 rfl rfl
  cases a1 with
  | d _ _ a1 =>
  cases a1
  cases a2 with
  | d _ _ a2 =>
  cases a2
  cases a0 with
  | row _ _ _ Nn c A hρ hn hc =>
    have hb := hinv.blk 0 0 _ rfl _ hρ
    obtain ⟨_, _, flat, hown, hrd⟩ := hb
    change m.w.ownsRow 0 (ρ.t 23) 1 (.slice A Nn c) xs.length flat at hown
    change ∀ (i : Nat) x (j : Nat) y u, xs[i]? = some x → x[j]? = some y → flat[i * 1 + j]? = some u → RD m.w m.ok y u at hrd
    rcases hown.2 with ⟨b, b'⟩ | ⟨g, cap, cur, b1, _, hg, b2, b3, b4, b5⟩
    · omega
    cases b1
    have hfl : flat.length = xs.length := by have := hown.1; omega
    have hflat : ∀ (j : Nat) u, flat[j]? = some u → ∃ y, xs[j]? = some [y] ∧ RD m.w m.ok y u := fun j u hu => by
      have hj : j < xs.length := by have := (List.getElem?_eq_some_iff.1 hu).1; omega
      obtain ⟨x, hxj⟩ : ∃ x, xs[j]? = some x := ⟨_, List.getElem?_eq_getElem hj⟩
      have hl := hx x (List.mem_of_getElem? hxj)
      match x, hl with
      | [y], _ => exact ⟨y, hxj, hrd j [y] 0 y u hxj rfl (by rw [Nat.mul_one, Nat.add_zero]; exact hu)⟩
    obtain ⟨fs, hfs⟩ : ∃ fs : List OneV, fs.map (·.1) = flat := by
      refine ⟨flat.pmap (fun v h => ⟨v, h⟩) (fun v hv => ?_), ?_⟩
      · obtain ⟨k, hk⟩ := List.getElem?_of_mem hv
        obtain ⟨y, _, h⟩ := hflat k v hk
        exact h.one
      · rw [List.map_pmap]; simp
    have hfsl : fs.length = xs.length := by rw [← hfl, ← hfs, List.length_map]
    refine (del_own L v23 i0 hi0 hz1 g xs.length c i j cur fs m.w hg hfsl b2 b3 (by omega) (by rw [hfs]; rw [← b5, Nat.mul_one]) hij hj).mono ?_
    rintro e w' ⟨rfl, hown', hgr⟩
    have hall : ∀ x ∈ xs.take i ++ xs.drop j ++ List.replicate (j - i) [DV.sl []], x.length = 1 := fun x hxm => by
      simp only [List.mem_append, List.mem_replicate] at hxm
      rcases hxm with (h | h) | ⟨_, h⟩
      · exact hx x (List.mem_of_mem_take h)
      · exact hx x (List.mem_of_mem_drop h)
      · rw [h]; rfl
    have hl' : (xs.take i ++ xs.drop j ++ List.replicate (j - i) [DV.sl []]).length = xs.length := by simp; omega
    have hti : (xs.take i).length = i := by rw [List.length_take]; omega
    have hfi : (fs.take i).length = i := by rw [List.length_take]; omega
    obtain ⟨m', e1, e2, e3, e4, e5⟩ := give_row (xs' := xs.take i ++ xs.drop j ++ List.replicate (j - i) [.sl []]) (v' := .slice (some ⟨g, 0, none⟩) xs.length c) hinv hρ hfree hall (by rw [hl']; exact hown') hgr (.inl rfl) (fun k x t z u' hk ht hu => by
        have hxl := hall x (List.mem_of_getElem? hk)
        obtain rfl : t = 0 := by have := (List.getElem?_eq_some_iff.1 ht).1; omega
        rw [Nat.mul_one, Nat.add_zero, List.getElem?_map] at hu
        obtain ⟨f, hf, rfl⟩ := Option.map_eq_some_iff.1 hu
        have fl : ∀ (q : Nat) (f : OneV), fs[q]? = some f → flat[q]? = some f.1 := fun q f h => by rw [← hfs, List.getElem?_map, h]; rfl
        by_cases h1 : k < i
        · rw [List.append_assoc, List.getElem?_append_left (by omega), List.getElem?_take, if_pos h1] at hf hk
          obtain ⟨q, hq, hr⟩ := hflat k _ (fl k f hf)
          rw [hq] at hk; cases hk; simp at ht; subst ht; exact hr
        · by_cases h2 : k < i + (xs.length - j)
          · rw [List.append_assoc, List.getElem?_append_right (by omega), List.getElem?_append_left (by rw [List.length_drop]; omega), List.getElem?_drop] at hf hk
            rw [hfi] at hf
            rw [hti] at hk
            obtain ⟨q, hq, hr⟩ := hflat _ _ (fl _ f hf)
            rw [hq] at hk; cases hk; simp at ht; subst ht; exact hr
          · rw [List.getElem?_append_right (by simp; omega)] at hf hk
            have h3 := List.mem_of_getElem? hf
            have h4 := List.mem_of_getElem? hk
            rw [List.mem_replicate] at h3 h4
            rw [h4.2] at ht
            simp at ht
            subst ht
            rw [h3.2]
            exact .sl 1 [] none 0 0 ⟨0, 0, none⟩ (fun _ => .bool true) rfl (Nat.le_refl _) (by decide) (fun h => absurd h (by decide)) (fun x h => by cases h) (fun i x j y h => by simp at h) (fun i x j y h => by simp at h))
    refine ⟨_, m', rfl, e1, e2, fun t ht => ?_, e4, .row 0 0 _ _ _ _ e5 (by omega) b2⟩
    obtain rfl : t = 0 := by simpa using ht
    exact e3
end Go.Proofs.Ve

/- Insert, Delete at the seat. -/
set_option maxRecDepth 100000
set_option linter.all false
namespace Go.Proofs.Ve
open Go Go.Proofs Go.Shelf Go.RowKit Go.Lib
def renIK : Ren := ⟨fun | 22 => 61 | 29 => 71 | 30 => 72 | n => n, fun | 9 => 27 | 24 => 22 | n => n, fun n => n⟩
def renIC : Ren := ⟨fun | 22 => 62 | 29 => 73 | 30 => 74 | n => n, fun | 9 => 32 | 24 => 23 | n => n, fun n => n⟩
theorem laysIK : InsL Try.prog renIK (.slice none 0 0) := {
  mixed := by kernel_rfl
  f22 := ⟨Try.f61.name, by decide, Try.func61.trans (congrArg some (by kernel_rfl))⟩
  ov := fun w vb voff m vc b o lb cb tA tB kA kB h1 h2 h3 h4 h5 => by
    show (callFunc 71 _).run _ w = _
    rw [run_callFunc_extern Try.func71 (by kernel_rfl) (by kernel_rfl) (by kernel_rfl) (e := Extern.SlicesOverlaps.overlaps #[22, 22] #[4]) (by kernel_rfl),
      overlaps_own w 22 4 27 Try.underlying22 1 Try.sizeOf27 ⟨vb, voff, none⟩ ⟨b, o, none⟩ m vc lb cb h1 tA tB kA kB h2 h3 h4 (h5 _) (h5 _)]
    rfl
  t0 := Try.underlying0
  a0 := Try.isAgg0
  z0 := Try.sizeOf0
  v0 := Try.zeroValue0
  t3 := Try.underlying3
  a3 := Try.isAgg3
  z3 := Try.sizeOf3
  v3 := Try.zeroValue3
  t4 := Try.underlying4
  a4 := Try.isAgg4
  z4 := Try.sizeOf4
  v4 := Try.zeroValue4
  a9 := Try.isAgg27
  z9 := Try.sizeOf27
  v9 := Try.zeroValue27
  t24 := Try.underlying22
  a24 := Try.isAgg22
  z24 := Try.sizeOf22
  v24 := Try.zeroValue22
  i9 := by kernel_rfl
  cz := rfl }
theorem laysIC : InsL Try.prog renIC (.slice none 0 0) := {
  mixed := by kernel_rfl
  f22 := ⟨Try.f62.name, by decide, Try.func62.trans (congrArg some (by kernel_rfl))⟩
  ov := fun w vb voff m vc b o lb cb tA tB kA kB h1 h2 h3 h4 h5 => by
    show (callFunc 73 _).run _ w = _
    rw [run_callFunc_extern Try.func73 (by kernel_rfl) (by kernel_rfl) (by kernel_rfl) (e := Extern.SlicesOverlaps.overlaps #[23, 23] #[4]) (by kernel_rfl),
      overlaps_own w 23 4 32 Try.underlying23 1 Try.sizeOf32 ⟨vb, voff, none⟩ ⟨b, o, none⟩ m vc lb cb h1 tA tB kA kB h2 h3 h4 (h5 _) (h5 _)]
    rfl
  t0 := Try.underlying0
  a0 := Try.isAgg0
  z0 := Try.sizeOf0
  v0 := Try.zeroValue0
  t3 := Try.underlying3
  a3 := Try.isAgg3
  z3 := Try.sizeOf3
  v3 := Try.zeroValue3
  t4 := Try.underlying4
  a4 := Try.isAgg4
  z4 := Try.sizeOf4
  v4 := Try.zeroValue4
  a9 := Try.isAgg32
  z9 := Try.sizeOf32
  v9 := Try.zeroValue32
  t24 := Try.underlying23
  a24 := Try.isAgg23
  z24 := Try.sizeOf23
  v24 := Try.zeroValue23
  i9 := by kernel_rfl
  cz := rfl }
def renDK : Ren := ⟨fun | 45 => 65 | n => n, fun | 22 => 22 | 23 => 27 | n => n, fun n => n⟩
theorem laysDK : SlLaysE.n45 Try.prog renDK := {
  mixed := by kernel_rfl
  f45 := ⟨Try.f65.name, by decide, Try.func65.trans (congrArg some (by kernel_rfl))⟩
  t0 := Try.underlying0
  a0 := Try.isAgg0
  z0 := Try.sizeOf0
  v0 := Try.zeroValue0
  t3 := Try.underlying3
  a3 := Try.isAgg3
  z3 := Try.sizeOf3
  v3 := Try.zeroValue3
  t4 := Try.underlying4
  a4 := Try.isAgg4
  z4 := Try.sizeOf4
  v4 := Try.zeroValue4
  t22 := Try.underlying22
  a22 := Try.isAgg22
  z22 := Try.sizeOf22
  v22 := Try.zeroValue22
  a23 := Try.isAgg27
  z23 := Try.sizeOf27 }
def renDC : Ren := ⟨fun | 45 => 66 | n => n, fun | 22 => 23 | 23 => 32 | n => n, fun n => n⟩
theorem laysDC : SlLaysE.n45 Try.prog renDC := {
  mixed := by kernel_rfl
  f45 := ⟨Try.f66.name, by decide, Try.func66.trans (congrArg some (by kernel_rfl))⟩
  t0 := Try.underlying0
  a0 := Try.isAgg0
  z0 := Try.sizeOf0
  v0 := Try.zeroValue0
  t3 := Try.underlying3
  a3 := Try.isAgg3
  z3 := Try.sizeOf3
  v3 := Try.zeroValue3
  t4 := Try.underlying4
  a4 := Try.isAgg4
  z4 := Try.sizeOf4
  v4 := Try.zeroValue4
  t22 := Try.underlying23
  a22 := Try.isAgg23
  z22 := Try.sizeOf23
  v22 := Try.zeroValue23
  a23 := Try.isAgg32
  z23 := Try.sizeOf32 }
theorem d_insK (xs : List (List DV)) (hx : ∀ x ∈ xs, x.length = 1) (i : Nat) (hi : i ≤ xs.length) (y : DV) (hb : xs.length < 1000000) (H : List (List Blk)) :
    CallEqG X H 61 [⟨27, 1, xs⟩] [.row 0 0 xs.length, .d (.int .i64 i), .d (.sl [[y]])] [none] (.row 0 0 (xs.length + 1)) [⟨27, 1, xs.take i ++ [[y]] ++ xs.drop i⟩] :=
  ins_eq (ρ := renIK) laysIK xs hx i hi y hb H
theorem d_insC (xs : List (List DV)) (hx : ∀ x ∈ xs, x.length = 1) (i : Nat) (hi : i ≤ xs.length) (y : DV) (hb : xs.length < 1000000) (H : List (List Blk)) :
    CallEqG X H 62 [⟨32, 1, xs⟩] [.row 0 0 xs.length, .d (.int .i64 i), .d (.sl [[y]])] [none] (.row 0 0 (xs.length + 1)) [⟨32, 1, xs.take i ++ [[y]] ++ xs.drop i⟩] :=
  ins_eq (ρ := renIC) laysIC xs hx i hi y hb H
theorem one_size {P : Program} {t : TypeId} {z : Value} {b : Nat} (h : (P.info? t).map (fun i => (i.zero, i.size, i.bytes)) = some (some z, 1, b)) : ∃ i0, P.info? t = some i0 ∧ i0.size = 1 := by
  obtain ⟨i0, h1, _, h2, _⟩ := info_parts h
  exact ⟨i0, h1, h2⟩
theorem d_delK (xs : List (List DV)) (hx : ∀ x ∈ xs, x.length = 1) (i j : Nat) (hij : i ≤ j) (hj : j ≤ xs.length) (h0 : 0 < xs.length) (H : List (List Blk)) :
    CallEqG X H 65 [⟨27, 1, xs⟩] [.row 0 0 xs.length, .d (.int .i64 i), .d (.int .i64 j)] [none] (.row 0 0 (xs.length - (j - i))) [⟨27, 1, xs.take i ++ xs.drop j ++ List.replicate (j - i) [.sl []]⟩] := by
  obtain ⟨i0, h1, h2⟩ := one_size (P := X.P) (t := 27) laysIK.i9
  exact del_eq (ρ := renDK) laysDK Try.zeroValue27 i0 h1 h2 xs hx i j hij hj h0 H
theorem d_delC (xs : List (List DV)) (hx : ∀ x ∈ xs, x.length = 1) (i j : Nat) (hij : i ≤ j) (hj : j ≤ xs.length) (h0 : 0 < xs.length) (H : List (List Blk)) :
    CallEqG X H 66 [⟨32, 1, xs⟩] [.row 0 0 xs.length, .d (.int .i64 i), .d (.int .i64 j)] [none] (.row 0 0 (xs.length - (j - i))) [⟨32, 1, xs.take i ++ xs.drop j ++ List.replicate (j - i) [.sl []]⟩] := by
  obtain ⟨i0, h1, h2⟩ := one_size (P := X.P) (t := 32) laysIC.i9
  exact del_eq (ρ := renDC) laysDC Try.zeroValue32 i0 h1 h2 xs hx i j hij hj h0 H
end Go.Proofs.Ve

/- A leaf in memory of its own. -/
set_option maxRecDepth 100000
set_option maxHeartbeats 8000000
set_option linter.all false
namespace Go.Proofs.Ve
open Go
def rowC (l : List (List Ver)) : List (List DV) := l.map fun c => [encVs c]
theorem rowK_one (l : List (List UInt8)) : ∀ x ∈ rowK l, x.length = 1 := fun x hx => by unfold rowK at hx; simp only [List.mem_map] at hx; obtain ⟨_, _, rfl⟩ := hx; rfl
theorem rowC_one (l : List (List Ver)) : ∀ x ∈ rowC l, x.length = 1 := fun x hx => by unfold rowC at hx; simp only [List.mem_map] at hx; obtain ⟨_, _, rfl⟩ := hx; rfl
theorem set_same {α β : Type} {f : α → β} {l : List α} {i : Nat} {x : α} (h : l[i]? = some x) : (l.map f).set i (f x) = l.map f := by
  refine List.ext_getElem? fun j => ?_
  rw [List.getElem?_set]
  have hi := (List.getElem?_eq_some_iff.1 h).1
  split
  · rename_i e; subst e
    rw [if_pos (by rw [List.length_map]; omega), List.getElem?_map, h]; rfl
  · rfl
theorem d_ownL (ks : List (List UInt8)) (cs : List (List Ver)) (h1 : ks.length < 100000) (h2 : cs.length < 100000) (h3 : ∀ x ∈ ks, x.length ≤ 1000000) (h4 : ∀ y ∈ cs, y.length < 100000 ∧ ∀ v ∈ y, v.val.length ≤ 1000000) (H : List (List Blk)) :
    CallEq X H 48 [pNode (.mk ks cs [])] (.agg [.row 0 0 ks.length, .row 0 1 cs.length, .row 0 2 0]) [⟨27, 1, rowK ks⟩, ⟨32, 1, rowC cs⟩, ⟨26, 3, []⟩] := by
  have l1 : (rowK ks).length = ks.length := List.length_map ..
  have l2 : (rowC cs).length = cs.length := List.length_map ..
  refine callEq_of_body X_ok rfl Try.func48 rfl ?_
  conv => whnf
  refine ⟨_, _, d_cloneK (rowK ks) (rowK_one ks) (by omega) _, True.intro, ?_⟩
  conv => whnf
  refine ⟨_, _, d_cloneC (rowC cs) (rowC_one cs) (by omega) _, True.intro, ?_⟩
  conv => whnf
  refine ⟨_, _, d_cloneN [] (fun x h => by cases h) (by decide) _, True.intro, ?_⟩
  conv => whnf
  refine loopV_of (fun i : Nat => ⟨[.any, .ptr 0 0 0, .ptr 0 1 0, .any, .any, .any, .any, .any, .any, .any, .any, .any, .any, .any, .any, .any, .any, .any, .any, .any, .any, .any, .row 0 2 (rowK ks).length, .d (.int .i64 (rowK ks).length), .d (.int .i64 i), .any, .any, .any, .any, .any, .any, .any, .any, .any, .any, .any, .any, .any, .any, .any, .any, .any, .any, .any, .any, .any, .any, .any, .any, .any, .any, .any, .any, .any, .any, .any, .any, .any, .any, .any, .any, .any, .any, .any, .any, .any, .any], [.box [.row 0 2 (rowK ks).length, .row 0 3 (rowC cs).length, .row 0 4 0], .box [.any, .any, .any], .row 27 1 (rowK ks), .row 32 1 (rowC cs), .row 26 3 []]⟩)
    (fun i => i ≤ ks.length) (fun i => ks.length - i) 0 [0, 1, 2, 3, 4] (Nat.zero_le _) ?_ ?_
  · refine And.intro rfl (And.intro ?_ ?_)
    all_goals (repeat' (first | exact True.intro | exact rfl | refine And.intro ?_ ?_))
  · intro i hi
    conv => whnf
    refine And.intro (fun q => ?_) (fun q => ?_)
    · conv => whnf
      have hi' : i < ks.length := by rw [l1] at q; simpa using q
      obtain ⟨k, hk⟩ : ∃ x, ks[i]? = some x := ⟨_, List.getElem?_eq_getElem hi'⟩
      have hkl := h3 k (List.mem_of_getElem? hk)
      have hg : (rowK ks)[((i : Nat) : Int).toNat]? = some [encB k] := by unfold rowK; rw [Int.toNat_natCast, List.getElem?_map, hk]; rfl
      have hset : (rowK ks).set ((i : Nat) : Int).toNat [encB k] = rowK ks := by rw [Int.toNat_natCast]; exact set_same (f := fun k => [encB k]) hk
      refine ⟨by omega, by rw [l1]; omega, ?_⟩
      conv => whnf
      refine ⟨[encB k], hg, ?_⟩
      conv => whnf
      refine ⟨_, _, c103 k (by omega) _, True.intro, ?_⟩
      conv => whnf
      refine ⟨by omega, by rw [l1]; omega, ?_⟩
      conv => whnf
      refine ⟨[encB k], hg, ?_⟩
      conv => whnf
      intro z hz
      conv => whnf
      rw [wrap_small (by omega) (by omega)] at hz
      subst hz
      refine ⟨i + 1, [0, 1, 2, 3, 4], by omega, by omega, And.intro rfl (And.intro ?_ ?_)⟩
      all_goals (repeat' (first | exact True.intro | exact rfl | refine And.intro ?_ ?_))
      exact hset
    · conv => whnf
      refine loopV_of (fun i : Nat => ⟨[.any, .ptr 0 0 0, .ptr 0 1 0, .any, .any, .any, .any, .any, .any, .any, .any, .any, .any, .any, .any, .any, .any, .any, .any, .any, .any, .any, .any, .any, .any, .any, .any, .any, .any, .any, .any, .any, .any, .any, .any, .any, .any, .row 0 3 (rowC cs).length, .d (.int .i64 (rowC cs).length), .d (.int .i64 i), .any, .any, .any, .any, .any, .any, .any, .any, .any, .any, .any, .any, .any, .any, .any, .any, .any, .any, .any, .any, .any, .any, .any, .any, .any, .any, .any], [.box [.row 0 2 (rowK ks).length, .row 0 3 (rowC cs).length, .row 0 4 0], .box [.any, .any, .any], .row 27 1 (rowK ks), .row 32 1 (rowC cs), .row 26 3 []]⟩)
        (fun i => i ≤ cs.length) (fun i => cs.length - i) 0 [0, 1, 2, 3, 4] (Nat.zero_le _) ?_ ?_
      · refine And.intro rfl (And.intro ?_ ?_)
        all_goals (repeat' (first | exact True.intro | exact rfl | refine And.intro ?_ ?_))
      · clear q hi
        clear i
        intro i hi
        conv => whnf
        refine And.intro (fun q => ?_) (fun q => ?_)
        · conv => whnf
          have hi' : i < cs.length := by rw [l2] at q; simpa using q
          obtain ⟨c, hc⟩ : ∃ x, cs[i]? = some x := ⟨_, List.getElem?_eq_getElem hi'⟩
          have hcl := h4 c (List.mem_of_getElem? hc)
          have hg : (rowC cs)[((i : Nat) : Int).toNat]? = some [encVs c] := by unfold rowC; rw [Int.toNat_natCast, List.getElem?_map, hc]; rfl
          have hset : (rowC cs).set ((i : Nat) : Int).toNat [encVs c] = rowC cs := by rw [Int.toNat_natCast]; exact set_same (f := fun c => [encVs c]) hc
          refine ⟨by omega, by rw [l2]; omega, ?_⟩
          conv => whnf
          refine ⟨[encVs c], hg, ?_⟩
          conv => whnf
          refine ⟨_, _, d_vers c (by omega) hcl.2 _, True.intro, ?_⟩
          conv => whnf
          refine ⟨by omega, by rw [l2]; omega, ?_⟩
          conv => whnf
          refine ⟨[encVs c], hg, ?_⟩
          conv => whnf
          intro z hz
          conv => whnf
          rw [wrap_small (by omega) (by omega)] at hz
          subst hz
          refine ⟨i + 1, [0, 1, 2, 3, 4], by omega, by omega, And.intro rfl (And.intro ?_ ?_)⟩
          all_goals (repeat' (first | exact True.intro | exact rfl | refine And.intro ?_ ?_))
          exact hset
        · conv => whnf
          refine loopV_of (fun i : Nat => ⟨[.any, .ptr 0 0 0, .ptr 0 1 0, .any, .any, .any, .any, .any, .any, .any, .any, .any, .any, .any, .any, .any, .any, .any, .any, .any, .any, .any, .any, .any, .any, .any, .any, .any, .any, .any, .any, .any, .any, .any, .any, .any, .any, .any, .any, .any, .any, .any, .any, .any, .any, .any, .any, .any, .any, .any, .any, .any, .row 0 4 0, .d (.int .i64 0), .d (.int .i64 0), .any, .any, .any, .any, .any, .any, .any, .any, .any, .any, .any, .any], [.box [.row 0 2 (rowK ks).length, .row 0 3 (rowC cs).length, .row 0 4 0], .box [.any, .any, .any], .row 27 1 (rowK ks), .row 32 1 (rowC cs), .row 26 3 []]⟩)
            (fun i => True) (fun i => i) 0 [0, 1, 2, 3, 4] trivial ?_ ?_
          · refine And.intro rfl (And.intro ?_ ?_)
            all_goals (repeat' (first | exact True.intro | exact rfl | refine And.intro ?_ ?_))
          · intro i _
            conv => whnf
            refine And.intro (fun q => ?_) (fun q => ?_)
            · exact absurd q (by decide)
            · conv => whnf
              refine ⟨[2, 3, 4], rfl, ?_⟩
              (repeat' (first | exact True.intro | exact rfl | refine And.intro ?_ ?_))
              · show PV.row 0 2 _ = PV.row 0 2 _
                rw [l1]
              · show PV.row 0 3 _ = PV.row 0 3 _
                rw [l2]
end Go.Proofs.Ve

/- A key into a leaf. -/
set_option maxRecDepth 100000
set_option maxHeartbeats 8000000
set_option linter.all false
namespace Go.Proofs.Ve
open Go
def mo50 : List (Nat × Tr) := [(6, (.alt 0 (.alt 2 (.alt 3 (.alt 6 (.alt 8 (.alt 9 (.alt 1 (.alt 4 (.alt 5 (.alt 7 (.alt 12 (.alt 10 (.alt 11 (.alt 13 (.alt 14 (.alt 15 .fin .none) .none) .none) .none) .none) .none) (.alt 10 (.alt 7 (.alt 12 (.alt 11 (.alt 13 (.alt 14 (.alt 15 .fin .none) .none) .none) .none) .none) .none) .none)) (.alt 7 (.alt 5 (.alt 12 (.alt 10 (.alt 11 (.alt 13 (.alt 14 (.alt 15 .fin .none) .none) .none) .none) .none) .none) (.alt 10 (.alt 5 (.alt 12 (.alt 11 (.alt 13 (.alt 14 (.alt 15 .fin .none) .none) .none) .none) .none) .none) .none)) (.alt 10 (.alt 5 (.alt 7 (.alt 12 (.alt 11 (.alt 13 (.alt 14 (.alt 15 .fin .none) .none) .none) .none) .none) .none) (.alt 7 (.alt 5 (.alt 12 (.alt 11 (.alt 13 (.alt 14 (.alt 15 .fin .none) .none) .none) .none) .none) .none) .none)) .none))) (.alt 7 (.alt 4 (.alt 5 (.alt 12 (.alt 10 (.alt 11 (.alt 13 (.alt 14 (.alt 15 .fin .none) .none) .none) .none) .none) .none) (.alt 10 (.alt 5 (.alt 12 (.alt 11 (.alt 13 (.alt 14 (.alt 15 .fin .none) .none) .none) .none) .none) .none) .none)) (.alt 10 (.alt 4 (.alt 5 (.alt 12 (.alt 11 (.alt 13 (.alt 14 (.alt 15 .fin .none) .none) .none) .none) .none) .none) .none) .none)) (.alt 10 (.alt 4 (.alt 5 (.alt 7 (.alt 12 (.alt 11 (.alt 13 (.alt 14 (.alt 15 .fin .none) .none) .none) .none) .none) .none) (.alt 7 (.alt 5 (.alt 12 (.alt 11 (.alt 13 (.alt 14 (.alt 15 .fin .none) .none) .none) .none) .none) .none) .none)) (.alt 7 (.alt 4 (.alt 5 (.alt 12 (.alt 11 (.alt 13 (.alt 14 (.alt 15 .fin .none) .none) .none) .none) .none) .none) .none) .none)) .none))) (.alt 4 (.alt 1 (.alt 5 (.alt 7 (.alt 12 (.alt 10 (.alt 11 (.alt 13 (.alt 14 (.alt 15 .fin .none) .none) .none) .none) .none) .none) (.alt 10 (.alt 7 (.alt 12 (.alt 11 (.alt 13 (.alt 14 (.alt 15 .fin .none) .none) .none) .none) .none) .none) .none)) (.alt 7 (.alt 5 (.alt 12 (.alt 10 (.alt 11 (.alt 13 (.alt 14 (.alt 15 .fin .none) .none) .none) .none) .none) .none) (.alt 10 (.alt 5 (.alt 12 (.alt 11 (.alt 13 (.alt 14 (.alt 15 .fin .none) .none) .none) .none) .none) .none) .none)) (.alt 10 (.alt 5 (.alt 7 (.alt 12 (.alt 11 (.alt 13 (.alt 14 (.alt 15 .fin .none) .none) .none) .none) .none) .none) (.alt 7 (.alt 5 (.alt 12 (.alt 11 (.alt 13 (.alt 14 (.alt 15 .fin .none) .none) .none) .none) .none) .none) .none)) .none))) (.alt 7 (.alt 1 (.alt 5 (.alt 12 (.alt 10 (.alt 11 (.alt 13 (.alt 14 (.alt 15 .fin .none) .none) .none) .none) .none) .none) (.alt 10 (.alt 5 (.alt 12 (.alt 11 (.alt 13 (.alt 14 (.alt 15 .fin .none) .none) .none) .none) .none) .none) .none)) (.alt 10 (.alt 1 (.alt 5 (.alt 12 (.alt 11 (.alt 13 (.alt 14 (.alt 15 .fin .none) .none) .none) .none) .none) .none) .none) .none)) (.alt 10 (.alt 1 (.alt 5 (.alt 7 (.alt 12 (.alt 11 (.alt 13 (.alt 14 (.alt 15 .fin .none) .none) .none) .none) .none) .none) (.alt 7 (.alt 5 (.alt 12 (.alt 11 (.alt 13 (.alt 14 (.alt 15 .fin .none) .none) .none) .none) .none) .none) .none)) (.alt 7 (.alt 1 (.alt 5 (.alt 12 (.alt 11 (.alt 13 (.alt 14 (.alt 15 .fin .none) .none) .none) .none) .none) .none) .none) .none)) .none))) (.alt 7 (.alt 1 (.alt 4 (.alt 5 (.alt 12 (.alt 10 (.alt 11 (.alt 13 (.alt 14 (.alt 15 .fin .none) .none) .none) .none) .none) .none) (.alt 10 (.alt 5 (.alt 12 (.alt 11 (.alt 13 (.alt 14 (.alt 15 .fin .none) .none) .none) .none) .none) .none) .none)) (.alt 10 (.alt 4 (.alt 5 (.alt 12 (.alt 11 (.alt 13 (.alt 14 (.alt 15 .fin .none) .none) .none) .none) .none) .none) .none) .none)) (.alt 4 (.alt 1 (.alt 5 (.alt 12 (.alt 10 (.alt 11 (.alt 13 (.alt 14 (.alt 15 .fin .none) .none) .none) .none) .none) .none) (.alt 10 (.alt 5 (.alt 12 (.alt 11 (.alt 13 (.alt 14 (.alt 15 .fin .none) .none) .none) .none) .none) .none) .none)) (.alt 10 (.alt 1 (.alt 5 (.alt 12 (.alt 11 (.alt 13 (.alt 14 (.alt 15 .fin .none) .none) .none) .none) .none) .none) .none) .none)) (.alt 10 (.alt 1 (.alt 4 (.alt 5 (.alt 12 (.alt 11 (.alt 13 (.alt 14 (.alt 15 .fin .none) .none) .none) .none) .none) .none) .none) (.alt 4 (.alt 1 (.alt 5 (.alt 12 (.alt 11 (.alt 13 (.alt 14 (.alt 15 .fin .none) .none) .none) .none) .none) .none) .none) .none)) .none))) (.alt 10 (.alt 1 (.alt 4 (.alt 5 (.alt 7 (.alt 12 (.alt 11 (.alt 13 (.alt 14 (.alt 15 .fin .none) .none) .none) .none) .none) .none) (.alt 7 (.alt 5 (.alt 12 (.alt 11 (.alt 13 (.alt 14 (.alt 15 .fin .none) .none) .none) .none) .none) .none) .none)) (.alt 7 (.alt 4 (.alt 5 (.alt 12 (.alt 11 (.alt 13 (.alt 14 (.alt 15 .fin .none) .none) .none) .none) .none) .none) .none) .none)) (.alt 4 (.alt 1 (.alt 5 (.alt 7 (.alt 12 (.alt 11 (.alt 13 (.alt 14 (.alt 15 .fin .none) .none) .none) .none) .none) .none) (.alt 7 (.alt 5 (.alt 12 (.alt 11 (.alt 13 (.alt 14 (.alt 15 .fin .none) .none) .none) .none) .none) .none) .none)) (.alt 7 (.alt 1 (.alt 5 (.alt 12 (.alt 11 (.alt 13 (.alt 14 (.alt 15 .fin .none) .none) .none) .none) .none) .none) .none) .none)) (.alt 7 (.alt 1 (.alt 4 (.alt 5 (.alt 12 (.alt 11 (.alt 13 (.alt 14 (.alt 15 .fin .none) .none) .none) .none) .none) .none) .none) (.alt 4 (.alt 1 (.alt 5 (.alt 12 (.alt 11 (.alt 13 (.alt 14 (.alt 15 .fin .none) .none) .none) .none) .none) .none) .none) .none)) .none))) .none)))) .none) .none) .none) .none) .none) .none)), (11, (.alt 0 (.alt 2 (.alt 3 (.alt 5 (.alt 8 (.alt 9 (.alt 1 (.alt 4 (.alt 6 (.alt 7 (.alt 10 (.alt 11 (.alt 12 .fin .none) .none) .none) .none) .none) .none) (.alt 4 (.alt 1 (.alt 6 (.alt 7 (.alt 10 (.alt 11 (.alt 12 .fin .none) .none) .none) .none) .none) (.alt 6 (.alt 1 (.alt 7 (.alt 10 (.alt 11 (.alt 12 .fin .none) .none) .none) .none) (.alt 7 (.alt 1 (.alt 10 (.alt 11 (.alt 12 .fin .none) .none) .none) (.alt 10 (.alt 1 (.alt 11 (.alt 12 .fin .none) .none) .none) .none)) .none)) .none)) .none)) .none) .none) .none) .none) .none) .none))]
theorem d_putL (ks : List (List UInt8)) (cs : List (List Ver)) (k : List UInt8) (l : List Ver) (h1 : ks.length < 100000) (h2 : cs.length = ks.length) (hno : bsIs ks k = false) (H : List (List Blk)) :
    CallEqG X H 50 [⟨27, 1, rowK ks⟩, ⟨32, 1, rowC cs⟩, ⟨26, 3, []⟩] [.agg [.row 0 0 ks.length, .row 0 1 cs.length, .row 0 2 0], .d (encB k), .d (encVs l)] [none, none, none]
      (.agg [.row 0 0 (ks.length + 1), .row 0 1 (cs.length + 1), .row 0 2 0]) [⟨27, 1, (rowK ks).take (bs ks k) ++ [[encB k]] ++ (rowK ks).drop (bs ks k)⟩, ⟨32, 1, (rowC cs).take (bs ks k) ++ [[encVs l]] ++ (rowC cs).drop (bs ks k)⟩, ⟨26, 3, []⟩] := by
  have l1 : (rowK ks).length = ks.length := List.length_map ..
  have l2 : (rowC cs).length = cs.length := List.length_map ..
  have hp := fun H => d_place (.mk ks cs []) k (by show ks.length < 1000000; omega) H
  have hle : bs ks k ≤ ks.length := bs_le ks k
  have hlf := fun H => d_leaf (.mk ks cs []) H
  rw [show leafN (.mk ks cs []) = true from rfl] at hlf
  rw [show Node.keys (.mk ks cs []) = ks from rfl, hno] at hp
  generalize bs ks k = i at hp hle ⊢
  have hik := fun H => d_insK (rowK ks) (rowK_one ks) i (by omega) (encB k) (by omega) H
  have hic := fun H => d_insC (rowC cs) (rowC_one cs) i (by omega) (encVs l) (by omega) H
  have hp : ∀ H, CallEq X H 38 [.agg [.d (.sl ((rowK ks).take ks.length)), .d (.sl ((rowC cs).take cs.length)), .d (.sl (List.take 0 []))], .d (encB k)] (.tuple [.d (.int .i64 i), .d (.bool false)]) [] := fun H => by
    rw [List.take_of_length_le (Nat.le_of_eq l1), List.take_of_length_le (Nat.le_of_eq l2)]; exact hp H
  have hlf : ∀ H, CallEq X H 40 [.agg [.d (.sl ((rowK ks).take ks.length)), .d (.sl ((rowC cs).take cs.length)), .d (.sl (List.take 0 []))]] (.d (.bool true)) [] := fun H => by
    rw [List.take_of_length_le (Nat.le_of_eq l1), List.take_of_length_le (Nat.le_of_eq l2)]; exact hlf H
  rw [l1] at hik
  rw [l2] at hic
  generalize rowK ks = xs at l1 hp hlf hik ⊢
  generalize rowC cs = ys at l2 hp hlf hic ⊢
  generalize ks.length = n at l1 h1 h2 hp hle hlf hik ⊢
  generalize cs.length = m at l2 h2 hp hlf hic ⊢
  refine callEqG_of_bodyM X_ok (mo := mo50) (by kernel_rfl) Try.func50 rfl ?_
  conv => whnf
  refine ⟨_, _, hp _, And.intro rfl flat_nil, ?_⟩
  conv => whnf
  refine And.intro (fun q => ?_) (fun q => ?_)
  · exact absurd q (by decide)
  conv => whnf
  refine ⟨_, _, hlf _, And.intro rfl flat_nil, ?_⟩
  conv => whnf
  refine And.intro (fun q => ?_) (fun q => ?_)
  rotate_left
  · exact absurd q (by decide)
  conv => whnf
  repeat' (first
    | (refine ⟨_, _, _, hik _, ?_⟩; conv => whnf)
    | (refine ⟨_, _, _, hic _, ?_⟩; conv => whnf)
    | (refine And.intro ?_ ?_ <;> (conv => whnf))
    | (refine ⟨[5, 6, 2], rfl, ?_⟩
       (repeat' (first | exact True.intro | exact rfl | refine And.intro ?_ ?_))
       done)
    | fail)
end Go.Proofs.Ve

/- A key out of a leaf. -/
set_option maxRecDepth 100000
set_option maxHeartbeats 8000000
set_option linter.all false
namespace Go.Proofs.Ve
open Go
def mo51 : List (Nat × Tr) := [(4, (.alt 0 (.alt 2 (.alt 3 (.alt 4 (.alt 6 (.alt 8 (.alt 9 (.alt 10 (.alt 1 (.alt 5 (.alt 7 (.alt 12 (.alt 11 (.alt 13 (.alt 14 (.alt 15 .fin .none) .none) .none) .none) .none) .none) (.alt 7 (.alt 5 (.alt 12 (.alt 11 (.alt 13 (.alt 14 (.alt 15 .fin .none) .none) .none) .none) .none) .none) .none)) (.alt 7 (.alt 1 (.alt 5 (.alt 12 (.alt 11 (.alt 13 (.alt 14 (.alt 15 .fin .none) .none) .none) .none) .none) .none) .none) .none)) .none) .none) .none) .none) .none) .none) .none) .none)), (8, (.alt 0 (.alt 2 (.alt 3 (.alt 5 (.alt 6 (.alt 8 (.alt 9 (.alt 1 (.alt 4 (.alt 7 (.alt 10 (.alt 11 (.alt 12 (.alt 13 (.alt 14 (.alt 15 (.alt 16 (.alt 17 (.alt 18 (.alt 19 .fin .none) .none) .none) .none) .none) .none) .none) .none) .none) .none) .none) (.alt 7 (.alt 4 (.alt 10 (.alt 11 (.alt 12 (.alt 13 (.alt 14 (.alt 15 (.alt 16 (.alt 17 (.alt 18 (.alt 19 .fin .none) .none) .none) .none) .none) .none) .none) .none) .none) .none) (.alt 10 (.alt 4 (.alt 11 (.alt 12 (.alt 13 (.alt 14 (.alt 15 (.alt 16 (.alt 17 (.alt 18 (.alt 19 .fin .none) .none) .none) .none) .none) .none) .none) .none) .none) (.alt 11 (.alt 4 (.alt 12 (.alt 13 (.alt 14 (.alt 15 (.alt 16 (.alt 17 (.alt 18 (.alt 19 .fin .none) .none) .none) .none) .none) .none) .none) .none) (.alt 12 (.alt 13 (.alt 14 (.alt 15 (.alt 4 (.alt 16 (.alt 17 (.alt 18 (.alt 19 .fin .none) .none) .none) .none) (.alt 16 (.alt 4 (.alt 17 (.alt 18 (.alt 19 .fin .none) .none) .none) (.alt 17 (.alt 4 (.alt 18 (.alt 19 .fin .none) .none) .none) .none)) .none)) .none) .none) .none) .none)) .none)) .none)) .none)) (.alt 4 (.alt 1 (.alt 7 (.alt 10 (.alt 11 (.alt 12 (.alt 13 (.alt 14 (.alt 15 (.alt 16 (.alt 17 (.alt 18 (.alt 19 .fin .none) .none) .none) .none) .none) .none) .none) .none) .none) .none) .none) (.alt 7 (.alt 1 (.alt 10 (.alt 11 (.alt 12 (.alt 13 (.alt 14 (.alt 15 (.alt 16 (.alt 17 (.alt 18 (.alt 19 .fin .none) .none) .none) .none) .none) .none) .none) .none) .none) .none) (.alt 10 (.alt 1 (.alt 11 (.alt 12 (.alt 13 (.alt 14 (.alt 15 (.alt 16 (.alt 17 (.alt 18 (.alt 19 .fin .none) .none) .none) .none) .none) .none) .none) .none) .none) (.alt 11 (.alt 1 (.alt 12 (.alt 13 (.alt 14 (.alt 15 (.alt 16 (.alt 17 (.alt 18 (.alt 19 .fin .none) .none) .none) .none) .none) .none) .none) .none) (.alt 12 (.alt 13 (.alt 14 (.alt 15 (.alt 1 (.alt 16 (.alt 17 (.alt 18 (.alt 19 .fin .none) .none) .none) .none) .none) .none) .none) .none) .none)) .none)) .none)) .none)) (.alt 7 (.alt 1 (.alt 4 (.alt 10 (.alt 11 (.alt 12 (.alt 13 (.alt 14 (.alt 15 (.alt 16 (.alt 17 (.alt 18 (.alt 19 .fin .none) .none) .none) .none) .none) .none) .none) .none) .none) .none) (.alt 10 (.alt 4 (.alt 11 (.alt 12 (.alt 13 (.alt 14 (.alt 15 (.alt 16 (.alt 17 (.alt 18 (.alt 19 .fin .none) .none) .none) .none) .none) .none) .none) .none) .none) (.alt 11 (.alt 4 (.alt 12 (.alt 13 (.alt 14 (.alt 15 (.alt 16 (.alt 17 (.alt 18 (.alt 19 .fin .none) .none) .none) .none) .none) .none) .none) .none) (.alt 12 (.alt 13 (.alt 14 (.alt 15 (.alt 4 (.alt 16 (.alt 17 (.alt 18 (.alt 19 .fin .none) .none) .none) .none) (.alt 16 (.alt 4 (.alt 17 (.alt 18 (.alt 19 .fin .none) .none) .none) (.alt 17 (.alt 4 (.alt 18 (.alt 19 .fin .none) .none) .none) .none)) .none)) .none) .none) .none) .none)) .none)) .none)) (.alt 4 (.alt 1 (.alt 10 (.alt 11 (.alt 12 (.alt 13 (.alt 14 (.alt 15 (.alt 16 (.alt 17 (.alt 18 (.alt 19 .fin .none) .none) .none) .none) .none) .none) .none) .none) .none) .none) (.alt 10 (.alt 1 (.alt 11 (.alt 12 (.alt 13 (.alt 14 (.alt 15 (.alt 16 (.alt 17 (.alt 18 (.alt 19 .fin .none) .none) .none) .none) .none) .none) .none) .none) .none) (.alt 11 (.alt 1 (.alt 12 (.alt 13 (.alt 14 (.alt 15 (.alt 16 (.alt 17 (.alt 18 (.alt 19 .fin .none) .none) .none) .none) .none) .none) .none) .none) (.alt 12 (.alt 13 (.alt 14 (.alt 15 (.alt 1 (.alt 16 (.alt 17 (.alt 18 (.alt 19 .fin .none) .none) .none) .none) .none) .none) .none) .none) .none)) .none)) .none)) (.alt 10 (.alt 1 (.alt 4 (.alt 11 (.alt 12 (.alt 13 (.alt 14 (.alt 15 (.alt 16 (.alt 17 (.alt 18 (.alt 19 .fin .none) .none) .none) .none) .none) .none) .none) .none) .none) (.alt 11 (.alt 4 (.alt 12 (.alt 13 (.alt 14 (.alt 15 (.alt 16 (.alt 17 (.alt 18 (.alt 19 .fin .none) .none) .none) .none) .none) .none) .none) .none) (.alt 12 (.alt 13 (.alt 14 (.alt 15 (.alt 4 (.alt 16 (.alt 17 (.alt 18 (.alt 19 .fin .none) .none) .none) .none) (.alt 16 (.alt 4 (.alt 17 (.alt 18 (.alt 19 .fin .none) .none) .none) (.alt 17 (.alt 4 (.alt 18 (.alt 19 .fin .none) .none) .none) .none)) .none)) .none) .none) .none) .none)) .none)) (.alt 4 (.alt 1 (.alt 11 (.alt 12 (.alt 13 (.alt 14 (.alt 15 (.alt 16 (.alt 17 (.alt 18 (.alt 19 .fin .none) .none) .none) .none) .none) .none) .none) .none) .none) (.alt 11 (.alt 1 (.alt 12 (.alt 13 (.alt 14 (.alt 15 (.alt 16 (.alt 17 (.alt 18 (.alt 19 .fin .none) .none) .none) .none) .none) .none) .none) .none) (.alt 12 (.alt 13 (.alt 14 (.alt 15 (.alt 1 (.alt 16 (.alt 17 (.alt 18 (.alt 19 .fin .none) .none) .none) .none) .none) .none) .none) .none) .none)) .none)) (.alt 11 (.alt 1 (.alt 4 (.alt 12 (.alt 13 (.alt 14 (.alt 15 (.alt 16 (.alt 17 (.alt 18 (.alt 19 .fin .none) .none) .none) .none) .none) .none) .none) .none) (.alt 12 (.alt 13 (.alt 14 (.alt 15 (.alt 4 (.alt 16 (.alt 17 (.alt 18 (.alt 19 .fin .none) .none) .none) .none) (.alt 16 (.alt 4 (.alt 17 (.alt 18 (.alt 19 .fin .none) .none) .none) (.alt 17 (.alt 4 (.alt 18 (.alt 19 .fin .none) .none) .none) .none)) .none)) .none) .none) .none) .none)) (.alt 4 (.alt 1 (.alt 12 (.alt 13 (.alt 14 (.alt 15 (.alt 16 (.alt 17 (.alt 18 (.alt 19 .fin .none) .none) .none) .none) .none) .none) .none) .none) (.alt 12 (.alt 13 (.alt 14 (.alt 15 (.alt 1 (.alt 16 (.alt 17 (.alt 18 (.alt 19 .fin .none) .none) .none) .none) .none) .none) .none) .none) .none)) (.alt 12 (.alt 13 (.alt 14 (.alt 15 (.alt 1 (.alt 4 (.alt 16 (.alt 17 (.alt 18 (.alt 19 .fin .none) .none) .none) .none) (.alt 16 (.alt 4 (.alt 17 (.alt 18 (.alt 19 .fin .none) .none) .none) (.alt 17 (.alt 4 (.alt 18 (.alt 19 .fin .none) .none) .none) .none)) .none)) (.alt 4 (.alt 1 (.alt 16 (.alt 17 (.alt 18 (.alt 19 .fin .none) .none) .none) .none) .none) .none)) .none) .none) .none) .none))) .none))) .none))) .none))) .none) .none) .none) .none) .none) .none) .none)), (9, (.alt 0 (.alt 2 (.alt 3 (.alt 4 (.alt 6 (.alt 7 (.alt 10 (.alt 12 (.alt 1 (.alt 5 (.alt 8 (.alt 9 (.alt 11 (.alt 13 (.alt 14 (.alt 15 (.alt 16 (.alt 17 .fin .none) .none) .none) .none) .none) .none) (.alt 11 (.alt 9 (.alt 13 (.alt 14 (.alt 15 (.alt 16 (.alt 17 .fin .none) .none) .none) .none) .none) (.alt 13 (.alt 9 (.alt 14 (.alt 15 (.alt 16 (.alt 17 .fin .none) .none) .none) .none) (.alt 14 (.alt 9 (.alt 15 (.alt 16 (.alt 17 .fin .none) .none) .none) .none) .none)) .none)) .none)) (.alt 11 (.alt 8 (.alt 9 (.alt 13 (.alt 14 (.alt 15 (.alt 16 (.alt 17 .fin .none) .none) .none) .none) .none) (.alt 13 (.alt 9 (.alt 14 (.alt 15 (.alt 16 (.alt 17 .fin .none) .none) .none) .none) (.alt 14 (.alt 9 (.alt 15 (.alt 16 (.alt 17 .fin .none) .none) .none) .none) .none)) .none)) (.alt 13 (.alt 8 (.alt 9 (.alt 14 (.alt 15 (.alt 16 (.alt 17 .fin .none) .none) .none) .none) (.alt 14 (.alt 9 (.alt 15 (.alt 16 (.alt 17 .fin .none) .none) .none) .none) .none)) (.alt 14 (.alt 8 (.alt 9 (.alt 15 (.alt 16 (.alt 17 .fin .none) .none) .none) .none) .none) .none)) .none)) .none)) (.alt 11 (.alt 5 (.alt 8 (.alt 9 (.alt 13 (.alt 14 (.alt 15 (.alt 16 (.alt 17 .fin .none) .none) .none) .none) .none) (.alt 13 (.alt 9 (.alt 14 (.alt 15 (.alt 16 (.alt 17 .fin .none) .none) .none) .none) (.alt 14 (.alt 9 (.alt 15 (.alt 16 (.alt 17 .fin .none) .none) .none) .none) .none)) .none)) (.alt 13 (.alt 8 (.alt 9 (.alt 14 (.alt 15 (.alt 16 (.alt 17 .fin .none) .none) .none) .none) (.alt 14 (.alt 9 (.alt 15 (.alt 16 (.alt 17 .fin .none) .none) .none) .none) .none)) (.alt 14 (.alt 8 (.alt 9 (.alt 15 (.alt 16 (.alt 17 .fin .none) .none) .none) .none) .none) .none)) .none)) (.alt 13 (.alt 5 (.alt 8 (.alt 9 (.alt 14 (.alt 15 (.alt 16 (.alt 17 .fin .none) .none) .none) .none) (.alt 14 (.alt 9 (.alt 15 (.alt 16 (.alt 17 .fin .none) .none) .none) .none) .none)) (.alt 14 (.alt 8 (.alt 9 (.alt 15 (.alt 16 (.alt 17 .fin .none) .none) .none) .none) .none) .none)) (.alt 14 (.alt 5 (.alt 8 (.alt 9 (.alt 15 (.alt 16 (.alt 17 .fin .none) .none) .none) .none) .none) .none) .none)) .none)) .none)) (.alt 5 (.alt 1 (.alt 8 (.alt 9 (.alt 11 (.alt 13 (.alt 14 (.alt 15 (.alt 16 (.alt 17 .fin .none) .none) .none) .none) .none) .none) (.alt 11 (.alt 9 (.alt 13 (.alt 14 (.alt 15 (.alt 16 (.alt 17 .fin .none) .none) .none) .none) .none) (.alt 13 (.alt 9 (.alt 14 (.alt 15 (.alt 16 (.alt 17 .fin .none) .none) .none) .none) (.alt 14 (.alt 9 (.alt 15 (.alt 16 (.alt 17 .fin .none) .none) .none) .none) .none)) .none)) .none)) (.alt 11 (.alt 8 (.alt 9 (.alt 13 (.alt 14 (.alt 15 (.alt 16 (.alt 17 .fin .none) .none) .none) .none) .none) (.alt 13 (.alt 9 (.alt 14 (.alt 15 (.alt 16 (.alt 17 .fin .none) .none) .none) .none) (.alt 14 (.alt 9 (.alt 15 (.alt 16 (.alt 17 .fin .none) .none) .none) .none) .none)) .none)) (.alt 13 (.alt 8 (.alt 9 (.alt 14 (.alt 15 (.alt 16 (.alt 17 .fin .none) .none) .none) .none) (.alt 14 (.alt 9 (.alt 15 (.alt 16 (.alt 17 .fin .none) .none) .none) .none) .none)) (.alt 14 (.alt 8 (.alt 9 (.alt 15 (.alt 16 (.alt 17 .fin .none) .none) .none) .none) .none) .none)) .none)) .none)) (.alt 8 (.alt 1 (.alt 9 (.alt 11 (.alt 13 (.alt 14 (.alt 15 (.alt 16 (.alt 17 .fin .none) .none) .none) .none) .none) .none) (.alt 11 (.alt 9 (.alt 13 (.alt 14 (.alt 15 (.alt 16 (.alt 17 .fin .none) .none) .none) .none) .none) (.alt 13 (.alt 9 (.alt 14 (.alt 15 (.alt 16 (.alt 17 .fin .none) .none) .none) .none) (.alt 14 (.alt 9 (.alt 15 (.alt 16 (.alt 17 .fin .none) .none) .none) .none) .none)) .none)) .none)) (.alt 9 (.alt 1 (.alt 11 (.alt 13 (.alt 14 (.alt 15 (.alt 16 (.alt 17 .fin .none) .none) .none) .none) .none) .none) (.alt 11 (.alt 1 (.alt 13 (.alt 14 (.alt 15 (.alt 16 (.alt 17 .fin .none) .none) .none) .none) .none) (.alt 13 (.alt 1 (.alt 14 (.alt 15 (.alt 16 (.alt 17 .fin .none) .none) .none) .none) (.alt 14 (.alt 1 (.alt 15 (.alt 16 (.alt 17 .fin .none) .none) .none) (.alt 15 (.alt 1 (.alt 16 (.alt 17 .fin .none) .none) .none) .none)) .none)) .none)) .none)) (.alt 11 (.alt 1 (.alt 9 (.alt 13 (.alt 14 (.alt 15 (.alt 16 (.alt 17 .fin .none) .none) .none) .none) .none) (.alt 13 (.alt 9 (.alt 14 (.alt 15 (.alt 16 (.alt 17 .fin .none) .none) .none) .none) (.alt 14 (.alt 9 (.alt 15 (.alt 16 (.alt 17 .fin .none) .none) .none) .none) .none)) .none)) (.alt 9 (.alt 1 (.alt 13 (.alt 14 (.alt 15 (.alt 16 (.alt 17 .fin .none) .none) .none) .none) .none) (.alt 13 (.alt 1 (.alt 14 (.alt 15 (.alt 16 (.alt 17 .fin .none) .none) .none) .none) (.alt 14 (.alt 1 (.alt 15 (.alt 16 (.alt 17 .fin .none) .none) .none) (.alt 15 (.alt 1 (.alt 16 (.alt 17 .fin .none) .none) .none) .none)) .none)) .none)) (.alt 13 (.alt 1 (.alt 9 (.alt 14 (.alt 15 (.alt 16 (.alt 17 .fin .none) .none) .none) .none) (.alt 14 (.alt 9 (.alt 15 (.alt 16 (.alt 17 .fin .none) .none) .none) .none) .none)) (.alt 9 (.alt 1 (.alt 14 (.alt 15 (.alt 16 (.alt 17 .fin .none) .none) .none) .none) (.alt 14 (.alt 1 (.alt 15 (.alt 16 (.alt 17 .fin .none) .none) .none) (.alt 15 (.alt 1 (.alt 16 (.alt 17 .fin .none) .none) .none) .none)) .none)) (.alt 14 (.alt 1 (.alt 9 (.alt 15 (.alt 16 (.alt 17 .fin .none) .none) .none) .none) (.alt 9 (.alt 1 (.alt 15 (.alt 16 (.alt 17 .fin .none) .none) .none) (.alt 15 (.alt 1 (.alt 16 (.alt 17 .fin .none) .none) .none) .none)) .none)) .none))) .none))) .none))) (.alt 11 (.alt 1 (.alt 8 (.alt 9 (.alt 13 (.alt 14 (.alt 15 (.alt 16 (.alt 17 .fin .none) .none) .none) .none) .none) (.alt 13 (.alt 9 (.alt 14 (.alt 15 (.alt 16 (.alt 17 .fin .none) .none) .none) .none) (.alt 14 (.alt 9 (.alt 15 (.alt 16 (.alt 17 .fin .none) .none) .none) .none) .none)) .none)) (.alt 13 (.alt 8 (.alt 9 (.alt 14 (.alt 15 (.alt 16 (.alt 17 .fin .none) .none) .none) .none) (.alt 14 (.alt 9 (.alt 15 (.alt 16 (.alt 17 .fin .none) .none) .none) .none) .none)) (.alt 14 (.alt 8 (.alt 9 (.alt 15 (.alt 16 (.alt 17 .fin .none) .none) .none) .none) .none) .none)) .none)) (.alt 8 (.alt 1 (.alt 9 (.alt 13 (.alt 14 (.alt 15 (.alt 16 (.alt 17 .fin .none) .none) .none) .none) .none) (.alt 13 (.alt 9 (.alt 14 (.alt 15 (.alt 16 (.alt 17 .fin .none) .none) .none) .none) (.alt 14 (.alt 9 (.alt 15 (.alt 16 (.alt 17 .fin .none) .none) .none) .none) .none)) .none)) (.alt 9 (.alt 1 (.alt 13 (.alt 14 (.alt 15 (.alt 16 (.alt 17 .fin .none) .none) .none) .none) .none) (.alt 13 (.alt 1 (.alt 14 (.alt 15 (.alt 16 (.alt 17 .fin .none) .none) .none) .none) (.alt 14 (.alt 1 (.alt 15 (.alt 16 (.alt 17 .fin .none) .none) .none) (.alt 15 (.alt 1 (.alt 16 (.alt 17 .fin .none) .none) .none) .none)) .none)) .none)) (.alt 13 (.alt 1 (.alt 9 (.alt 14 (.alt 15 (.alt 16 (.alt 17 .fin .none) .none) .none) .none) (.alt 14 (.alt 9 (.alt 15 (.alt 16 (.alt 17 .fin .none) .none) .none) .none) .none)) (.alt 9 (.alt 1 (.alt 14 (.alt 15 (.alt 16 (.alt 17 .fin .none) .none) .none) .none) (.alt 14 (.alt 1 (.alt 15 (.alt 16 (.alt 17 .fin .none) .none) .none) (.alt 15 (.alt 1 (.alt 16 (.alt 17 .fin .none) .none) .none) .none)) .none)) (.alt 14 (.alt 1 (.alt 9 (.alt 15 (.alt 16 (.alt 17 .fin .none) .none) .none) .none) (.alt 9 (.alt 1 (.alt 15 (.alt 16 (.alt 17 .fin .none) .none) .none) (.alt 15 (.alt 1 (.alt 16 (.alt 17 .fin .none) .none) .none) .none)) .none)) .none))) .none))) (.alt 13 (.alt 1 (.alt 8 (.alt 9 (.alt 14 (.alt 15 (.alt 16 (.alt 17 .fin .none) .none) .none) .none) (.alt 14 (.alt 9 (.alt 15 (.alt 16 (.alt 17 .fin .none) .none) .none) .none) .none)) (.alt 14 (.alt 8 (.alt 9 (.alt 15 (.alt 16 (.alt 17 .fin .none) .none) .none) .none) .none) .none)) (.alt 8 (.alt 1 (.alt 9 (.alt 14 (.alt 15 (.alt 16 (.alt 17 .fin .none) .none) .none) .none) (.alt 14 (.alt 9 (.alt 15 (.alt 16 (.alt 17 .fin .none) .none) .none) .none) .none)) (.alt 9 (.alt 1 (.alt 14 (.alt 15 (.alt 16 (.alt 17 .fin .none) .none) .none) .none) (.alt 14 (.alt 1 (.alt 15 (.alt 16 (.alt 17 .fin .none) .none) .none) (.alt 15 (.alt 1 (.alt 16 (.alt 17 .fin .none) .none) .none) .none)) .none)) (.alt 14 (.alt 1 (.alt 9 (.alt 15 (.alt 16 (.alt 17 .fin .none) .none) .none) .none) (.alt 9 (.alt 1 (.alt 15 (.alt 16 (.alt 17 .fin .none) .none) .none) (.alt 15 (.alt 1 (.alt 16 (.alt 17 .fin .none) .none) .none) .none)) .none)) .none))) (.alt 14 (.alt 1 (.alt 8 (.alt 9 (.alt 15 (.alt 16 (.alt 17 .fin .none) .none) .none) .none) .none) (.alt 8 (.alt 1 (.alt 9 (.alt 15 (.alt 16 (.alt 17 .fin .none) .none) .none) .none) (.alt 9 (.alt 1 (.alt 15 (.alt 16 (.alt 17 .fin .none) .none) .none) (.alt 15 (.alt 1 (.alt 16 (.alt 17 .fin .none) .none) .none) .none)) .none)) .none)) .none))) .none))) .none))) (.alt 11 (.alt 1 (.alt 5 (.alt 8 (.alt 9 (.alt 13 (.alt 14 (.alt 15 (.alt 16 (.alt 17 .fin .none) .none) .none) .none) .none) (.alt 13 (.alt 9 (.alt 14 (.alt 15 (.alt 16 (.alt 17 .fin .none) .none) .none) .none) (.alt 14 (.alt 9 (.alt 15 (.alt 16 (.alt 17 .fin .none) .none) .none) .none) .none)) .none)) (.alt 13 (.alt 8 (.alt 9 (.alt 14 (.alt 15 (.alt 16 (.alt 17 .fin .none) .none) .none) .none) (.alt 14 (.alt 9 (.alt 15 (.alt 16 (.alt 17 .fin .none) .none) .none) .none) .none)) (.alt 14 (.alt 8 (.alt 9 (.alt 15 (.alt 16 (.alt 17 .fin .none) .none) .none) .none) .none) .none)) .none)) (.alt 13 (.alt 5 (.alt 8 (.alt 9 (.alt 14 (.alt 15 (.alt 16 (.alt 17 .fin .none) .none) .none) .none) (.alt 14 (.alt 9 (.alt 15 (.alt 16 (.alt 17 .fin .none) .none) .none) .none) .none)) (.alt 14 (.alt 8 (.alt 9 (.alt 15 (.alt 16 (.alt 17 .fin .none) .none) .none) .none) .none) .none)) (.alt 14 (.alt 5 (.alt 8 (.alt 9 (.alt 15 (.alt 16 (.alt 17 .fin .none) .none) .none) .none) .none) .none) .none)) .none)) (.alt 5 (.alt 1 (.alt 8 (.alt 9 (.alt 13 (.alt 14 (.alt 15 (.alt 16 (.alt 17 .fin .none) .none) .none) .none) .none) (.alt 13 (.alt 9 (.alt 14 (.alt 15 (.alt 16 (.alt 17 .fin .none) .none) .none) .none) (.alt 14 (.alt 9 (.alt 15 (.alt 16 (.alt 17 .fin .none) .none) .none) .none) .none)) .none)) (.alt 13 (.alt 8 (.alt 9 (.alt 14 (.alt 15 (.alt 16 (.alt 17 .fin .none) .none) .none) .none) (.alt 14 (.alt 9 (.alt 15 (.alt 16 (.alt 17 .fin .none) .none) .none) .none) .none)) (.alt 14 (.alt 8 (.alt 9 (.alt 15 (.alt 16 (.alt 17 .fin .none) .none) .none) .none) .none) .none)) .none)) (.alt 8 (.alt 1 (.alt 9 (.alt 13 (.alt 14 (.alt 15 (.alt 16 (.alt 17 .fin .none) .none) .none) .none) .none) (.alt 13 (.alt 9 (.alt 14 (.alt 15 (.alt 16 (.alt 17 .fin .none) .none) .none) .none) (.alt 14 (.alt 9 (.alt 15 (.alt 16 (.alt 17 .fin .none) .none) .none) .none) .none)) .none)) (.alt 9 (.alt 1 (.alt 13 (.alt 14 (.alt 15 (.alt 16 (.alt 17 .fin .none) .none) .none) .none) .none) (.alt 13 (.alt 1 (.alt 14 (.alt 15 (.alt 16 (.alt 17 .fin .none) .none) .none) .none) (.alt 14 (.alt 1 (.alt 15 (.alt 16 (.alt 17 .fin .none) .none) .none) (.alt 15 (.alt 1 (.alt 16 (.alt 17 .fin .none) .none) .none) .none)) .none)) .none)) (.alt 13 (.alt 1 (.alt 9 (.alt 14 (.alt 15 (.alt 16 (.alt 17 .fin .none) .none) .none) .none) (.alt 14 (.alt 9 (.alt 15 (.alt 16 (.alt 17 .fin .none) .none) .none) .none) .none)) (.alt 9 (.alt 1 (.alt 14 (.alt 15 (.alt 16 (.alt 17 .fin .none) .none) .none) .none) (.alt 14 (.alt 1 (.alt 15 (.alt 16 (.alt 17 .fin .none) .none) .none) (.alt 15 (.alt 1 (.alt 16 (.alt 17 .fin .none) .none) .none) .none)) .none)) (.alt 14 (.alt 1 (.alt 9 (.alt 15 (.alt 16 (.alt 17 .fin .none) .none) .none) .none) (.alt 9 (.alt 1 (.alt 15 (.alt 16 (.alt 17 .fin .none) .none) .none) (.alt 15 (.alt 1 (.alt 16 (.alt 17 .fin .none) .none) .none) .none)) .none)) .none))) .none))) (.alt 13 (.alt 1 (.alt 8 (.alt 9 (.alt 14 (.alt 15 (.alt 16 (.alt 17 .fin .none) .none) .none) .none) (.alt 14 (.alt 9 (.alt 15 (.alt 16 (.alt 17 .fin .none) .none) .none) .none) .none)) (.alt 14 (.alt 8 (.alt 9 (.alt 15 (.alt 16 (.alt 17 .fin .none) .none) .none) .none) .none) .none)) (.alt 8 (.alt 1 (.alt 9 (.alt 14 (.alt 15 (.alt 16 (.alt 17 .fin .none) .none) .none) .none) (.alt 14 (.alt 9 (.alt 15 (.alt 16 (.alt 17 .fin .none) .none) .none) .none) .none)) (.alt 9 (.alt 1 (.alt 14 (.alt 15 (.alt 16 (.alt 17 .fin .none) .none) .none) .none) (.alt 14 (.alt 1 (.alt 15 (.alt 16 (.alt 17 .fin .none) .none) .none) (.alt 15 (.alt 1 (.alt 16 (.alt 17 .fin .none) .none) .none) .none)) .none)) (.alt 14 (.alt 1 (.alt 9 (.alt 15 (.alt 16 (.alt 17 .fin .none) .none) .none) .none) (.alt 9 (.alt 1 (.alt 15 (.alt 16 (.alt 17 .fin .none) .none) .none) (.alt 15 (.alt 1 (.alt 16 (.alt 17 .fin .none) .none) .none) .none)) .none)) .none))) (.alt 14 (.alt 1 (.alt 8 (.alt 9 (.alt 15 (.alt 16 (.alt 17 .fin .none) .none) .none) .none) .none) (.alt 8 (.alt 1 (.alt 9 (.alt 15 (.alt 16 (.alt 17 .fin .none) .none) .none) .none) (.alt 9 (.alt 1 (.alt 15 (.alt 16 (.alt 17 .fin .none) .none) .none) (.alt 15 (.alt 1 (.alt 16 (.alt 17 .fin .none) .none) .none) .none)) .none)) .none)) .none))) .none))) (.alt 13 (.alt 1 (.alt 5 (.alt 8 (.alt 9 (.alt 14 (.alt 15 (.alt 16 (.alt 17 .fin .none) .none) .none) .none) (.alt 14 (.alt 9 (.alt 15 (.alt 16 (.alt 17 .fin .none) .none) .none) .none) .none)) (.alt 14 (.alt 8 (.alt 9 (.alt 15 (.alt 16 (.alt 17 .fin .none) .none) .none) .none) .none) .none)) (.alt 14 (.alt 5 (.alt 8 (.alt 9 (.alt 15 (.alt 16 (.alt 17 .fin .none) .none) .none) .none) .none) .none) .none)) (.alt 5 (.alt 1 (.alt 8 (.alt 9 (.alt 14 (.alt 15 (.alt 16 (.alt 17 .fin .none) .none) .none) .none) (.alt 14 (.alt 9 (.alt 15 (.alt 16 (.alt 17 .fin .none) .none) .none) .none) .none)) (.alt 14 (.alt 8 (.alt 9 (.alt 15 (.alt 16 (.alt 17 .fin .none) .none) .none) .none) .none) .none)) (.alt 8 (.alt 1 (.alt 9 (.alt 14 (.alt 15 (.alt 16 (.alt 17 .fin .none) .none) .none) .none) (.alt 14 (.alt 9 (.alt 15 (.alt 16 (.alt 17 .fin .none) .none) .none) .none) .none)) (.alt 9 (.alt 1 (.alt 14 (.alt 15 (.alt 16 (.alt 17 .fin .none) .none) .none) .none) (.alt 14 (.alt 1 (.alt 15 (.alt 16 (.alt 17 .fin .none) .none) .none) (.alt 15 (.alt 1 (.alt 16 (.alt 17 .fin .none) .none) .none) .none)) .none)) (.alt 14 (.alt 1 (.alt 9 (.alt 15 (.alt 16 (.alt 17 .fin .none) .none) .none) .none) (.alt 9 (.alt 1 (.alt 15 (.alt 16 (.alt 17 .fin .none) .none) .none) (.alt 15 (.alt 1 (.alt 16 (.alt 17 .fin .none) .none) .none) .none)) .none)) .none))) (.alt 14 (.alt 1 (.alt 8 (.alt 9 (.alt 15 (.alt 16 (.alt 17 .fin .none) .none) .none) .none) .none) (.alt 8 (.alt 1 (.alt 9 (.alt 15 (.alt 16 (.alt 17 .fin .none) .none) .none) .none) (.alt 9 (.alt 1 (.alt 15 (.alt 16 (.alt 17 .fin .none) .none) .none) (.alt 15 (.alt 1 (.alt 16 (.alt 17 .fin .none) .none) .none) .none)) .none)) .none)) .none))) (.alt 14 (.alt 1 (.alt 5 (.alt 8 (.alt 9 (.alt 15 (.alt 16 (.alt 17 .fin .none) .none) .none) .none) .none) .none) (.alt 5 (.alt 1 (.alt 8 (.alt 9 (.alt 15 (.alt 16 (.alt 17 .fin .none) .none) .none) .none) .none) (.alt 8 (.alt 1 (.alt 9 (.alt 15 (.alt 16 (.alt 17 .fin .none) .none) .none) .none) (.alt 9 (.alt 1 (.alt 15 (.alt 16 (.alt 17 .fin .none) .none) .none) (.alt 15 (.alt 1 (.alt 16 (.alt 17 .fin .none) .none) .none) .none)) .none)) .none)) .none)) .none))) .none))) .none))) .none) .none) .none) .none) .none) .none) .none) .none)), (15, (.alt 0 (.alt 2 (.alt 3 (.alt 5 (.alt 8 (.alt 1 (.alt 4 (.alt 6 (.alt 7 (.alt 9 (.alt 10 (.alt 11 .fin .none) .none) .none) .none) .none) .none) (.alt 4 (.alt 1 (.alt 6 (.alt 7 (.alt 9 (.alt 10 (.alt 11 .fin .none) .none) .none) .none) .none) (.alt 6 (.alt 1 (.alt 7 (.alt 9 (.alt 10 (.alt 11 .fin .none) .none) .none) .none) (.alt 7 (.alt 1 (.alt 9 (.alt 10 (.alt 11 .fin .none) .none) .none) (.alt 9 (.alt 1 (.alt 10 (.alt 11 .fin .none) .none) .none) .none)) .none)) .none)) .none)) .none) .none) .none) .none) .none)), (21, (.alt 0 (.alt 2 (.alt 3 (.alt 5 (.alt 8 (.alt 1 (.alt 4 (.alt 6 (.alt 7 (.alt 9 (.alt 10 (.alt 11 .fin .none) .none) .none) .none) .none) .none) (.alt 4 (.alt 1 (.alt 6 (.alt 7 (.alt 9 (.alt 10 (.alt 11 .fin .none) .none) .none) .none) .none) (.alt 6 (.alt 1 (.alt 7 (.alt 9 (.alt 10 (.alt 11 .fin .none) .none) .none) .none) (.alt 7 (.alt 1 (.alt 9 (.alt 10 (.alt 11 .fin .none) .none) .none) (.alt 9 (.alt 1 (.alt 10 (.alt 11 .fin .none) .none) .none) .none)) .none)) .none)) .none)) .none) .none) .none) .none) .none))]
theorem d_removeL (ks : List (List UInt8)) (cs : List (List Ver)) (k : List UInt8) (h1 : ks.length < 100000) (h2 : cs.length = ks.length) (hno : bsIs ks k = true) (H : List (List Blk)) :
    CallEqG X H 51 [⟨27, 1, rowK ks⟩, ⟨32, 1, rowC cs⟩, ⟨26, 3, []⟩] [.agg [.row 0 0 ks.length, .row 0 1 cs.length, .row 0 2 0], .d (encB k)] [none, none, none]
      (.agg [.row 0 0 (ks.length - 1), .row 0 1 (cs.length - 1), .row 0 2 0]) [⟨27, 1, (rowK ks).take (bs ks k) ++ (rowK ks).drop (bs ks k + 1) ++ [[.sl []]]⟩, ⟨32, 1, (rowC cs).take (bs ks k) ++ (rowC cs).drop (bs ks k + 1) ++ [[.sl []]]⟩, ⟨26, 3, []⟩] := by
  have l1 : (rowK ks).length = ks.length := List.length_map ..
  have l2 : (rowC cs).length = cs.length := List.length_map ..
  have hp := fun H => d_place (.mk ks cs []) k (by show ks.length < 1000000; omega) H
  have hle : bs ks k < ks.length := bsIs_lt hno
  have hlf := fun H => d_leaf (.mk ks cs []) H
  rw [show leafN (.mk ks cs []) = true from rfl] at hlf
  rw [show Node.keys (.mk ks cs []) = ks from rfl, hno] at hp
  generalize bs ks k = i at hp hle ⊢
  have hdk := fun H => d_delK (rowK ks) (rowK_one ks) i (i + 1) (by omega) (by omega) (by omega) H
  have hdc := fun H => d_delC (rowC cs) (rowC_one cs) i (i + 1) (by omega) (by omega) (by omega) H
  have hp : ∀ H, CallEq X H 38 [.agg [.d (.sl ((rowK ks).take ks.length)), .d (.sl ((rowC cs).take cs.length)), .d (.sl (List.take 0 []))], .d (encB k)] (.tuple [.d (.int .i64 i), .d (.bool true)]) [] := fun H => by
    rw [List.take_of_length_le (Nat.le_of_eq l1), List.take_of_length_le (Nat.le_of_eq l2)]; exact hp H
  have hlf : ∀ H, CallEq X H 40 [.agg [.d (.sl ((rowK ks).take ks.length)), .d (.sl ((rowC cs).take cs.length)), .d (.sl (List.take 0 []))]] (.d (.bool true)) [] := fun H => by
    rw [List.take_of_length_le (Nat.le_of_eq l1), List.take_of_length_le (Nat.le_of_eq l2)]; exact hlf H
  rw [l1, show i + 1 - i = 1 by omega, show ((i + 1 : Nat) : Int) = (i : Int) + 1 by omega] at hdk
  rw [l2, show i + 1 - i = 1 by omega, show ((i + 1 : Nat) : Int) = (i : Int) + 1 by omega] at hdc
  have hw : IntKind.i64.wrap ((i : Int) + 1) = (i : Int) + 1 := wrap_small (by omega) (by omega)
  generalize rowK ks = xs at l1 hp hlf hdk ⊢
  generalize rowC cs = ys at l2 hp hlf hdc ⊢
  generalize ks.length = n at l1 h1 h2 hp hle hlf hdk ⊢
  generalize cs.length = m at l2 h2 hp hlf hdc ⊢
  refine callEqG_of_bodyM X_ok (mo := mo51) (by kernel_rfl) Try.func51 rfl ?_
  conv => whnf
  refine ⟨_, _, hp _, And.intro rfl flat_nil, ?_⟩
  conv => whnf
  refine ⟨_, _, hlf _, And.intro rfl flat_nil, ?_⟩
  conv => whnf
  refine And.intro (fun q => ?_) (fun q => ?_)
  rotate_left
  · exact absurd q (by decide)
  conv => whnf
  refine And.intro (fun q => ?_) (fun q => ?_)
  rotate_left
  · exact absurd q (by decide)
  conv => whnf
  repeat' (first
    | (refine ⟨_, _, _, hdk _, ?_⟩; conv => whnf)
    | (refine ⟨_, _, _, hdc _, ?_⟩; conv => whnf)
    | (intro z hz; conv => whnf
       rw [hw] at hz
       subst hz
       conv => whnf)
    | (refine And.intro ?_ ?_ <;> (conv => whnf))
    | (refine ⟨[5, 6, 2], rfl, ?_⟩
       (repeat' (first | exact True.intro | exact rfl | refine And.intro ?_ ?_))
       done)
    | fail)
end Go.Proofs.Ve

/- Put, Delete at leaves. -/
set_option maxRecDepth 100000
set_option maxHeartbeats 8000000
set_option linter.all false
namespace Go.Proofs.Ve
open Go
def putRK (ks : List (List UInt8)) (k : List UInt8) : List (List DV) := (rowK ks).take (bs ks k) ++ [[encB k]] ++ (rowK ks).drop (bs ks k)
def putRC (ks : List (List UInt8)) (cs : List (List Ver)) (k : List UInt8) (l : List Ver) : List (List DV) := (rowC cs).take (bs ks k) ++ [[encVs l]] ++ (rowC cs).drop (bs ks k)
/-- may it be put? -/
def putOk (d : Nat) (n : Node) (k : List UInt8) (l : List Ver) : Bool := checkN d n && (decide ((k.length : Int) ≤ 16) && (!((l.length : Int) == 0) && vsOk l))
theorem d_PutL (ks : List (List UInt8)) (cs : List (List Ver)) (k : List UInt8) (l : List Ver) (hn : nOk 1 (.mk ks cs [])) (h2 : cs.length = ks.length) (h3 : ks.length < 3) (hk : k.length ≤ 1000000) (hl : l.length < 1000000) (hlv : ∀ x ∈ l, x.val.length ≤ 1000000)
    (hok : putOk 1 (.mk ks cs []) k l = true) (hno : bsIs ks k = false) (H : List (List Blk)) :
    CallEq X H 28 [pNode (.mk ks cs []), .d (encB k), .d (encVs l)] (.tuple [.agg [.row 0 0 (ks.length + 1), .row 0 1 (cs.length + 1), .row 0 2 0], .d (.int .i64 0)]) [⟨27, 1, putRK ks k⟩, ⟨32, 1, putRC ks cs k l⟩, ⟨26, 3, []⟩] := by
  have b1 := nOk_keys hn
  have b2 := nOk_chains hn
  have hchk := fun H => d_check 1 (.mk ks cs []) (by decide) hn H
  have hown := fun H => d_ownL ks cs b1 b2 (nOk_key hn) (nOk_chain hn) H
  have hput := fun H => d_putL ks cs k l b1 h2 hno H
  have hv := fun H => d_vscheck l hl H
  have hvs := fun H => d_vers l hl hlv H
  simp only [putOk, Bool.and_eq_true, decide_eq_true_eq, Bool.not_eq_true'] at hok
  obtain ⟨o1, o2, o3, o4⟩ := hok
  rw [o1] at hchk
  rw [o4] at hv
  have e1 : ((k.map fun x => [DV.int .u8 (x.toNat : Int)]).length : Int) = k.length := by rw [List.length_map]
  have e2 : ((l.map cVer).length : Int) = l.length := by rw [List.length_map]
  unfold putRK putRC
  refine callEq_of_body X_ok rfl Try.func28 rfl ?_
  conv => whnf
  refine ⟨_, _, hchk _, True.intro, ?_⟩
  conv => whnf
  refine And.intro (fun q => ?_) (fun q => ?_)
  rotate_left
  · exact absurd q (by decide)
  conv => whnf
  refine And.intro (fun q => ?_) (fun q => ?_)
  rotate_left
  · exfalso
    have q := of_decide_eq_true q
    rw [e1] at q; omega
  conv => whnf
  refine And.intro (fun q => ?_) (fun q => ?_)
  rotate_left
  · exfalso
    rw [e2, o3] at q; cases q
  conv => whnf
  refine ⟨_, _, hv _, True.intro, ?_⟩
  conv => whnf
  refine And.intro (fun q => ?_) (fun q => ?_)
  · exact absurd q (by decide)
  conv => whnf
  refine ⟨_, _, hown _, True.intro, ?_⟩
  conv => whnf
  refine And.intro (fun q => ?_) (fun q => ?_)
  · exfalso
    have : (ks.length : Int) = 3 := by simpa using q
    omega
  conv => whnf
  refine ⟨_, _, c103 k (by omega) _, True.intro, ?_⟩
  conv => whnf
  refine ⟨_, _, hvs _, True.intro, ?_⟩
  conv => whnf
  refine ⟨_, _, _, hput _, ?_⟩
  conv => whnf
  refine ⟨[6, 7, 8], rfl, ?_⟩
  (repeat' (first | exact True.intro | exact rfl | refine And.intro ?_ ?_))
theorem d_PutE (ks : List (List UInt8)) (cs : List (List Ver)) (k : List UInt8) (l : List Ver) (hn : nOk 1 (.mk ks cs [])) (hl : l.length < 1000000)
    (hok : putOk 1 (.mk ks cs []) k l = false) (H : List (List Blk)) :
    CallEq X H 28 [pNode (.mk ks cs []), .d (encB k), .d (encVs l)] (.tuple [.agg [.row 0 0 ks.length, .row 0 1 cs.length, .row 0 2 0], .d (.int .i64 1)]) [⟨27, 1, rowK ks⟩, ⟨32, 1, rowC cs⟩, ⟨26, 3, []⟩] := by
  have b1 := nOk_keys hn
  have b2 := nOk_chains hn
  have hchk := fun H => d_check 1 (.mk ks cs []) (by decide) hn H
  have hown := fun H => d_ownL ks cs b1 b2 (nOk_key hn) (nOk_chain hn) H
  have hv := fun H => d_vscheck l hl H
  have e1 : ((k.map fun x => [DV.int .u8 (x.toNat : Int)]).length : Int) = k.length := by rw [List.length_map]
  have e2 : ((l.map cVer).length : Int) = l.length := by rw [List.length_map]
  unfold putOk at hok
  generalize checkN 1 (.mk ks cs []) = R at hchk hok
  generalize vsOk l = V at hv hok
  refine callEq_of_body X_ok rfl Try.func28 rfl ?_
  conv => whnf
  refine ⟨_, _, hchk _, True.intro, ?_⟩
  conv => whnf
  refine And.intro (fun q1 => ?_) (fun q1 => ?_) <;> (conv => whnf)
  rotate_left
  · refine ⟨_, _, hown _, True.intro, ?_⟩
    conv => whnf
    refine ⟨[2, 3, 4], rfl, ?_⟩
    (repeat' (first | exact True.intro | exact rfl | refine And.intro ?_ ?_))
  refine And.intro (fun q2 => ?_) (fun q2 => ?_) <;> (conv => whnf)
  rotate_left
  · refine ⟨_, _, hown _, True.intro, ?_⟩
    conv => whnf
    refine ⟨[2, 3, 4], rfl, ?_⟩
    (repeat' (first | exact True.intro | exact rfl | refine And.intro ?_ ?_))
  refine And.intro (fun q3 => ?_) (fun q3 => ?_) <;> (conv => whnf)
  rotate_left
  · refine ⟨_, _, hown _, True.intro, ?_⟩
    conv => whnf
    refine ⟨[2, 3, 4], rfl, ?_⟩
    (repeat' (first | exact True.intro | exact rfl | refine And.intro ?_ ?_))
  refine ⟨_, _, hv _, True.intro, ?_⟩
  conv => whnf
  refine And.intro (fun q4 => ?_) (fun q4 => ?_) <;> (conv => whnf)
  · refine ⟨_, _, hown _, True.intro, ?_⟩
    conv => whnf
    refine ⟨[2, 3, 4], rfl, ?_⟩
    (repeat' (first | exact True.intro | exact rfl | refine And.intro ?_ ?_))
  · exfalso
    have q2 := of_decide_eq_false q2
    rw [e1] at q2
    rw [e2] at q3
    have q1 : R = true := by simpa using q1
    have q4 : V = true := by simpa using q4
    rw [q1, q4, q3, decide_eq_true (by omega : (k.length : Int) ≤ 16)] at hok
    cases hok
theorem d_DeleteL (ks : List (List UInt8)) (cs : List (List Ver)) (k : List UInt8) (hn : nOk 1 (.mk ks cs [])) (h2 : cs.length = ks.length) (h3 : 2 ≤ ks.length) (hk : k.length ≤ 1000000)
    (hok : checkN 1 (.mk ks cs []) = true) (hyes : bsIs ks k = true) (H : List (List Blk)) :
    CallEq X H 29 [pNode (.mk ks cs []), .d (encB k)] (.tuple [.agg [.row 0 0 (ks.length - 1), .row 0 1 (cs.length - 1), .row 0 2 0], .d (.int .i64 0)])
      [⟨27, 1, (rowK ks).take (bs ks k) ++ (rowK ks).drop (bs ks k + 1) ++ [[.sl []]]⟩, ⟨32, 1, (rowC cs).take (bs ks k) ++ (rowC cs).drop (bs ks k + 1) ++ [[.sl []]]⟩, ⟨26, 3, []⟩] := by
  have b1 := nOk_keys hn
  have b2 := nOk_chains hn
  have hchk := fun H => d_check 1 (.mk ks cs []) (by decide) hn H
  have hown := fun H => d_ownL ks cs b1 b2 (nOk_key hn) (nOk_chain hn) H
  have hrem := fun H => d_removeL ks cs k b1 h2 hyes H
  have hlt := bsIs_lt hyes
  have hfind := fun H => d_find 1 (.mk ks cs []) k (by decide) hn H
  obtain ⟨c, hc⟩ : ∃ c, findA 1 (.mk ks cs []) k = some c := by
    obtain ⟨c, hc⟩ : ∃ c, cs[bs ks k]? = some c := ⟨_, List.getElem?_eq_getElem (by omega)⟩
    exact ⟨c, by unfold findA; rw [if_pos hok]; unfold findN; rw [if_pos (show bsIs (Node.keys (.mk ks cs [])) k = true from hyes)]; exact hc⟩
  rw [hc] at hfind
  rw [hok] at hchk
  unfold ansV at hfind
  refine callEq_of_body X_ok rfl Try.func29 rfl ?_
  conv => whnf
  refine ⟨_, _, hchk _, True.intro, ?_⟩
  conv => whnf
  refine And.intro (fun q => ?_) (fun q => ?_)
  · exact absurd q (by decide)
  conv => whnf
  refine ⟨_, _, hfind _, True.intro, ?_⟩
  conv => whnf
  refine And.intro (fun q => ?_) (fun q => ?_)
  · exact absurd q Bool.false_ne_true
  conv => whnf
  refine ⟨_, _, hown _, True.intro, ?_⟩
  conv => whnf
  refine ⟨_, _, c103 k (by omega) _, True.intro, ?_⟩
  conv => whnf
  refine ⟨_, _, _, hrem _, ?_⟩
  conv => whnf
  refine And.intro (fun q => ?_) (fun q => ?_)
  · exfalso
    have : ((ks.length - 1 : Nat) : Int) = 0 := by simpa using q
    omega
  conv => whnf
  refine ⟨[5, 6, 7], rfl, ?_⟩
  (repeat' (first | exact True.intro | exact rfl | refine And.intro ?_ ?_))
theorem d_DeleteN (ks : List (List UInt8)) (cs : List (List Ver)) (k : List UInt8) (hn : nOk 1 (.mk ks cs [])) (hok : checkN 1 (.mk ks cs []) = true) (hno : findA 1 (.mk ks cs []) k = none) (H : List (List Blk)) :
    CallEq X H 29 [pNode (.mk ks cs []), .d (encB k)] (.tuple [.agg [.row 0 0 ks.length, .row 0 1 cs.length, .row 0 2 0], .d (.int .i64 61)]) [⟨27, 1, rowK ks⟩, ⟨32, 1, rowC cs⟩, ⟨26, 3, []⟩] := by
  have b1 := nOk_keys hn
  have b2 := nOk_chains hn
  have hchk := fun H => d_check 1 (.mk ks cs []) (by decide) hn H
  have hown := fun H => d_ownL ks cs b1 b2 (nOk_key hn) (nOk_chain hn) H
  have hfind := fun H => d_find 1 (.mk ks cs []) k (by decide) hn H
  rw [hno] at hfind
  rw [hok] at hchk
  unfold ansV at hfind
  refine callEq_of_body X_ok rfl Try.func29 rfl ?_
  conv => whnf
  refine ⟨_, _, hchk _, True.intro, ?_⟩
  conv => whnf
  refine And.intro (fun q => ?_) (fun q => ?_)
  · exact absurd q (by decide)
  conv => whnf
  refine ⟨_, _, hfind _, True.intro, ?_⟩
  conv => whnf
  refine And.intro (fun q => ?_) (fun q => ?_)
  rotate_left
  · exact absurd q (by decide)
  conv => whnf
  refine ⟨_, _, hown _, True.intro, ?_⟩
  conv => whnf
  refine ⟨[2, 3, 4], rfl, ?_⟩
  (repeat' (first | exact True.intro | exact rfl | refine And.intro ?_ ?_))
end Go.Proofs.Ve
