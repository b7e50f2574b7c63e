/- StoreOpen, part 5 of 6. The engine and the contracts that the proof needs. -/
import Derived.Lib.Bytealg
import Derived.Laws.Strings
import Derived.Shelf.SlicesE.Delete
import Derived.Lib.RowBridge
import Derived.Test.YtakdijnmhffemaaStoreOpenJ1
import Derived.Test.YtakdijnmhffemaaStoreOpenJ2
import Derived.Test.YtakdijnmhffemaaStoreOpenJ3
import Derived.Test.YtakdijnmhffemaaStoreOpenJ4
/- Clones: copies of rows. How many keys; how deep. -/
set_option maxRecDepth 100000
set_option maxHeartbeats 8000000
set_option linter.all false
namespace Go.Proofs.Ve
open Go
theorem d_cloneV (xs : List (List DV)) (hx : ∀ x ∈ xs, x.length = 3) (hl : xs.length < 1000000) (H : List (List Blk)) : CallEq X H 43 [.d (.sl xs)] (.row 0 0 xs.length) [⟨64, 3, xs⟩] := by
  refine callEq_of_body X_ok rfl Try.func43 rfl ?_
  conv => whnf
  refine And.intro (fun h => ?_) (fun h => ?_) <;> (conv => whnf)
  · subst h
    refine And.intro ?_ ?_ <;> (conv => whnf)
    · exact ⟨[5], rfl, by (repeat' (first | exact True.intro | exact rfl | refine And.intro ?_ ?_))⟩
    · refine ⟨fun y hy => (by cases hy), ?_⟩
      conv => whnf
      refine ⟨rfl, by decide, ?_⟩
      conv => whnf
      exact ⟨[1], rfl, by (repeat' (first | exact True.intro | exact rfl | refine And.intro ?_ ?_))⟩
  · refine ⟨fun y hy => hx y hy, ?_⟩
    conv => whnf
    refine ⟨rfl, by (first | omega | (dsimp only; omega) | (simp; done) | (simp; omega)), ?_⟩
    conv => whnf
    refine ⟨[1], rfl, ?_⟩
    (repeat' (first | exact True.intro | exact rfl | refine And.intro ?_ ?_))
    show PV.row 0 1 _ = PV.row 0 1 _; rw [Nat.zero_add]
theorem d_cloneVn (H : List (List Blk)) : CallEq X H 43 [.nils] .nils [] := by
  refine callEq_of_body X_ok rfl Try.func43 rfl ?_
  conv => whnf
  exact ⟨[], rfl, by (repeat' (first | exact True.intro | exact rfl | refine And.intro ?_ ?_))⟩
theorem d_cloneK (xs : List (List DV)) (hx : ∀ x ∈ xs, x.length = 1) (hl : xs.length < 1000000) (H : List (List Blk)) : CallEq X H 56 [.d (.sl xs)] (.row 0 0 xs.length) [⟨30, 1, xs⟩] := by
  refine callEq_of_body X_ok rfl Try.func56 rfl ?_
  conv => whnf
  refine And.intro (fun h => ?_) (fun h => ?_) <;> (conv => whnf)
  · subst h
    refine And.intro ?_ ?_ <;> (conv => whnf)
    · exact ⟨[5], rfl, by (repeat' (first | exact True.intro | exact rfl | refine And.intro ?_ ?_))⟩
    · refine ⟨fun y hy => (by cases hy), ?_⟩
      conv => whnf
      refine ⟨rfl, by decide, ?_⟩
      conv => whnf
      exact ⟨[1], rfl, by (repeat' (first | exact True.intro | exact rfl | refine And.intro ?_ ?_))⟩
  · refine ⟨fun y hy => hx y hy, ?_⟩
    conv => whnf
    refine ⟨rfl, by (first | omega | (dsimp only; omega) | (simp; done) | (simp; omega)), ?_⟩
    conv => whnf
    refine ⟨[1], rfl, ?_⟩
    (repeat' (first | exact True.intro | exact rfl | refine And.intro ?_ ?_))
    show PV.row 0 1 _ = PV.row 0 1 _; rw [Nat.zero_add]
theorem d_cloneKn (H : List (List Blk)) : CallEq X H 56 [.nils] .nils [] := by
  refine callEq_of_body X_ok rfl Try.func56 rfl ?_
  conv => whnf
  exact ⟨[], rfl, by (repeat' (first | exact True.intro | exact rfl | refine And.intro ?_ ?_))⟩
theorem d_cloneC (xs : List (List DV)) (hx : ∀ x ∈ xs, x.length = 1) (hl : xs.length < 1000000) (H : List (List Blk)) : CallEq X H 57 [.d (.sl xs)] (.row 0 0 xs.length) [⟨58, 1, xs⟩] := by
  refine callEq_of_body X_ok rfl Try.func57 rfl ?_
  conv => whnf
  refine And.intro (fun h => ?_) (fun h => ?_) <;> (conv => whnf)
  · subst h
    refine And.intro ?_ ?_ <;> (conv => whnf)
    · exact ⟨[5], rfl, by (repeat' (first | exact True.intro | exact rfl | refine And.intro ?_ ?_))⟩
    · refine ⟨fun y hy => (by cases hy), ?_⟩
      conv => whnf
      refine ⟨rfl, by decide, ?_⟩
      conv => whnf
      exact ⟨[1], rfl, by (repeat' (first | exact True.intro | exact rfl | refine And.intro ?_ ?_))⟩
  · refine ⟨fun y hy => hx y hy, ?_⟩
    conv => whnf
    refine ⟨rfl, by (first | omega | (dsimp only; omega) | (simp; done) | (simp; omega)), ?_⟩
    conv => whnf
    refine ⟨[1], rfl, ?_⟩
    (repeat' (first | exact True.intro | exact rfl | refine And.intro ?_ ?_))
    show PV.row 0 1 _ = PV.row 0 1 _; rw [Nat.zero_add]
theorem d_cloneCn (H : List (List Blk)) : CallEq X H 57 [.nils] .nils [] := by
  refine callEq_of_body X_ok rfl Try.func57 rfl ?_
  conv => whnf
  exact ⟨[], rfl, by (repeat' (first | exact True.intro | exact rfl | refine And.intro ?_ ?_))⟩
theorem d_cloneN (xs : List (List DV)) (hx : ∀ x ∈ xs, x.length = 3) (hl : xs.length < 1000000) (H : List (List Blk)) : CallEq X H 58 [.d (.sl xs)] (.row 0 0 xs.length) [⟨26, 3, xs⟩] := by
  refine callEq_of_body X_ok rfl Try.func58 rfl ?_
  conv => whnf
  refine And.intro (fun h => ?_) (fun h => ?_) <;> (conv => whnf)
  · subst h
    refine And.intro ?_ ?_ <;> (conv => whnf)
    · exact ⟨[5], rfl, by (repeat' (first | exact True.intro | exact rfl | refine And.intro ?_ ?_))⟩
    · refine ⟨fun y hy => (by cases hy), ?_⟩
      conv => whnf
      refine ⟨rfl, by decide, ?_⟩
      conv => whnf
      exact ⟨[1], rfl, by (repeat' (first | exact True.intro | exact rfl | refine And.intro ?_ ?_))⟩
  · refine ⟨fun y hy => hx y hy, ?_⟩
    conv => whnf
    refine ⟨rfl, by (first | omega | (dsimp only; omega) | (simp; done) | (simp; omega)), ?_⟩
    conv => whnf
    refine ⟨[1], rfl, ?_⟩
    (repeat' (first | exact True.intro | exact rfl | refine And.intro ?_ ?_))
    show PV.row 0 1 _ = PV.row 0 1 _; rw [Nat.zero_add]
theorem d_cloneNn (H : List (List Blk)) : CallEq X H 58 [.nils] .nils [] := by
  refine callEq_of_body X_ok rfl Try.func58 rfl ?_
  conv => whnf
  exact ⟨[], rfl, by (repeat' (first | exact True.intro | exact rfl | refine And.intro ?_ ?_))⟩

end Go.Proofs.Ve

/- Versions in memory of their own. -/
set_option maxRecDepth 100000
set_option maxHeartbeats 8000000
set_option linter.all false
namespace Go.Proofs.Ve
open Go
theorem d_versR (l : List Ver) (hl : l.length < 1000000) (hv : ∀ x ∈ l, x.val.length ≤ 1000000) (H : List (List Blk)) : CallEq X H 38 [.d (encVs l)] (.row 0 0 l.length) [⟨64, 3, l.map cVer⟩] := by
  have h3 : ∀ x ∈ l.map cVer, x.length = 3 := fun x hx => by simp only [List.mem_map] at hx; obtain ⟨_, _, rfl⟩ := hx; rfl
  have hlen : (l.map cVer).length = l.length := List.length_map ..
  refine callEq_of_bodyF X_ok false true (mo := []) (by kernel_rfl) Try.func38 rfl ?_
  conv => whnf
  refine ⟨_, _, (d_cloneV (l.map cVer) h3 (by omega) _).md _ _, True.intro, ?_⟩
  conv => whnf
  refine loopV_of (fun i : Nat => ⟨[.any, .any, .any, .row 0 0 (l.map cVer).length, .any, .any, .any, .any, .row 0 0 (l.map cVer).length, .d (.int .i64 (l.map cVer).length), .d (.int .i64 i), .any, .any, .any, .any, .any, .any, .any, .any, .any, .any, .any, .any, .any], [.row 64 3 (l.map cVer)]⟩)
    (fun i => i ≤ l.length) (fun i => l.length - i) 0 [0] (Nat.zero_le _) ?_ ?_
  · refine And.intro rfl (And.intro ?_ ?_)
    all_goals (repeat' (first | exact True.intro | exact rfl | refine And.intro ?_ ?_))
  · intro i hi
    conv => whnf
    refine And.intro (fun q => ?_) (fun q => ?_)
    · conv => whnf
      have hi' : i < l.length := by simpa using q
      obtain ⟨x, hx⟩ : ∃ x, l[i]? = some x := ⟨_, List.getElem?_eq_getElem hi'⟩
      have hxv := hv x (List.mem_of_getElem? hx)
      have hget : (l.map cVer)[((i : Nat) : Int).toNat]? = some (cVer x) := by rw [Int.toNat_natCast, List.getElem?_map, hx]; rfl
      have hset : (l.map cVer).set ((i : Nat) : Int).toNat (cVer x) = l.map cVer := by
        rw [Int.toNat_natCast]
        refine List.ext_getElem? fun j => ?_
        rw [List.getElem?_set]
        split
        · rename_i h; subst h
          rw [if_pos (by rw [hlen]; omega)]
          rw [List.getElem?_map, hx]; rfl
        · rfl
      refine ⟨by omega, by rw [hlen]; omega, ?_⟩
      conv => whnf
      refine ⟨cVer x, hget, ?_⟩
      conv => whnf
      refine ⟨_, _, (c103 x.val (by omega) _).md _ _, True.intro, ?_⟩
      conv => whnf
      refine ⟨by omega, by rw [hlen]; omega, ?_⟩
      conv => whnf
      refine ⟨cVer x, hget, ?_⟩
      conv => whnf
      intro z hz
      conv => whnf
      rw [wrap_small (by omega) (by omega)] at hz
      subst hz
      refine ⟨i + 1, [0], by omega, by omega, And.intro rfl (And.intro ?_ ?_)⟩
      all_goals (repeat' (first | exact True.intro | exact rfl | refine And.intro ?_ ?_))
      exact hset
    · conv => whnf
      refine ⟨[0], rfl, ?_⟩
      (repeat' (first | exact True.intro | exact rfl | refine And.intro ?_ ?_))
      show PV.row 0 0 _ = PV.row 0 0 _
      rw [hlen]
theorem d_vers (l : List Ver) (hl : l.length < 1000000) (hv : ∀ x ∈ l, x.val.length ≤ 1000000) (H : List (List Blk)) : CallEq X H 38 [.d (encVs l)] (.d (encVs l)) [] :=
  (d_versR l hl hv H).freeze 1 (by
    show PV.d (.sl ((l.map cVer).take l.length)) = _
    rw [List.take_of_length_le (by simp)]; rfl)
end Go.Proofs.Ve

/- How many keys, how deep; a key's versions; the next key. -/
set_option maxRecDepth 100000
set_option maxHeartbeats 8000000
set_option linter.all false
namespace Go.Proofs.Ve
open Go
theorem d_many (d : Nat) (n : Node) (hd : d ≤ 16) (hn : nOk d n) (H : List (List Blk)) : CallEq X H 23 [pNode n] (.d (.int .i64 (keysN d n).length)) [] := by
  have h := fun H => d_keysR d n hd hn H
  refine callEq_of_body X_ok rfl Try.func23 rfl ?_
  conv => whnf
  repeat' (first
    | (refine And.intro (fun h_ => ?_) (fun h_ => ?_) <;> (conv => whnf))
    | (refine ⟨_, _, h _, (by first | exact True.intro | exact And.intro rfl flat_nil), ?_⟩; conv => whnf)
    | (intro z_ hz_; conv => whnf)
    | (refine ⟨[], rfl, ?_, True.intro⟩; (conv => whnf); (first | done | ((repeat' (first | exact True.intro | exact rfl | refine And.intro ?_ ?_)); done)))
    | fail)
def depthN (d : Nat) (n : Node) : Int := if checkN d n then deepN n 0 else 0
theorem bsF_le (p : List UInt8 → Int) (l : List (List UInt8)) : ∀ (n i j : Nat), i ≤ j → bsF p l n i j ≤ j ∧ i ≤ bsF p l n i j
  | 0, i, j, h => ⟨h, Nat.le_refl _⟩
  | n + 1, i, j, h => by
    unfold bsF
    split
    · split
      · have := bsF_le p l n (half i j + 1) j (by unfold half; omega)
        unfold half at this ⊢; omega
      · have := bsF_le p l n i (half i j) (by unfold half; omega)
        unfold half at this ⊢; omega
    · omega
theorem bs_le (l : List (List UInt8)) (k : List UInt8) : bs l k ≤ l.length := (bsF_le _ l _ 0 _ (Nat.zero_le _)).1
theorem bsIs_lt {l : List (List UInt8)} {k : List UInt8} (h : bsIs l k = true) : bs l k < l.length := by
  unfold bsIs at h
  simp at h
  omega
def findN : Nat → Node → List UInt8 → Option (List Ver)
  | 0, _, _ => none
  | d + 1, n, k => if bsIs n.keys k then n.chains[bs n.keys k]? else match n.kids[bs n.keys k]? with | some x => findN d x k | none => none
def ansV (o : Option (List Ver)) : PV := .tuple [.d (encVs (o.getD [])), .d (.bool o.isSome)]
def findA (d : Nat) (n : Node) (k : List UInt8) : Option (List Ver) := if checkN d n then findN d n k else none
theorem d_find (d : Nat) (n : Node) (k : List UInt8) (hd : d ≤ 16) (hn : nOk d n) (H : List (List Blk)) : CallEq X H 21 [pNode n, .d (encB k)] (ansV (findA d n k)) [] := by
  have hchk := fun H => d_check d n (by omega) hn H
  have hdeep : checkN d n = true → deepN n 0 ≠ 0 := fun h h' => by unfold checkN at h; rw [if_pos (by simp [h'])] at h; cases h
  have heq : findA d n k = if checkN d n then findN d n k else none := rfl
  generalize findA d n k = R at heq ⊢
  generalize checkN d n = C at hchk hdeep heq
  unfold ansV
  refine callEq_of_body X_ok rfl Try.func21 rfl ?_
  conv => whnf
  refine ⟨_, _, hchk _, True.intro, ?_⟩
  conv => whnf
  refine And.intro (fun q => ?_) (fun q => ?_) <;> (conv => whnf)
  · obtain rfl : C = false := by simpa using q
    obtain rfl : R = none := by simpa using heq
    exact ⟨[], rfl, by (repeat' (first | exact True.intro | exact rfl | refine And.intro ?_ ?_))⟩
  · obtain rfl : C = true := by simpa using q
    have heq : R = findN d n k := by simpa using heq
    refine loopV_of (fun i : Nat × Node => ⟨[.any, .d (encB k), .ptr 0 0 0, .any, .nils, .kb false, .any, .any, .any, .any, .any, .any, .any, .any, .any, .any, .any, .any, .any, .any, .any, .any, .any, .any, .any, .any, .any, .any, .any, .any, .any, .any, .any], [bNode i.2]⟩)
      (fun i => nOk i.1 i.2 ∧ (∃ l, deepN i.2 l ≠ 0) ∧ R = findN i.1 i.2 k) (fun i => i.1) (d, n) [0] ⟨hn, ⟨0, hdeep rfl⟩, heq⟩ ?_ ?_
    · refine And.intro rfl (And.intro ?_ ?_)
      all_goals (repeat' (first | exact True.intro | exact rfl | refine And.intro ?_ ?_))
    · rintro ⟨e, m⟩ ⟨hm, ⟨least, hl⟩, hI⟩
      dsimp only at hm hl hI
      obtain ⟨e, rfl⟩ := nOk_pos hm
      have hp := fun H => d_place m k (by have := nOk_keys hm; omega) H
      have hlf := fun H => d_leaf m H
      obtain ⟨p1, p2, p3, p4⟩ := deep_parts hl
      have hle := bs_le m.keys k
      have hlt : bsIs m.keys k = true → bs m.keys k < m.keys.length := bsIs_lt
      unfold findN at hI
      generalize bs m.keys k = i at hp hle hlt hI
      generalize bsIs m.keys k = is at hp hlt hI
      have hleaf : leafN m = true → m.kids = [] := fun h => by unfold leafN at h; simpa using h
      have hno : leafN m = false → m.kids ≠ [] := fun h h' => by unfold leafN at h; rw [h'] at h; cases h
      generalize leafN m = lf at hlf hleaf hno
      conv => whnf
      refine ⟨_, _, hp _, True.intro, ?_⟩
      conv => whnf
      refine And.intro (fun q => ?_) (fun q => ?_) <;> (conv => whnf)
      · rw [if_pos q] at hI
        obtain ⟨c, hc⟩ : ∃ y, m.chains[i]? = some y := ⟨_, List.getElem?_eq_getElem (by rw [p1]; exact hlt q)⟩
        rw [hc] at hI
        have hcv := nOk_chain hm c (List.mem_of_getElem? hc)
        refine ⟨by omega, [encVs c], by show (m.chains.map fun c => [encVs c])[((i : Nat) : Int).toNat]? = _; rw [Int.toNat_natCast, List.getElem?_map, hc]; rfl, rfl, ?_⟩
        conv => whnf
        refine ⟨_, _, d_vers c (by omega) hcv.2 _, True.intro, ?_⟩
        conv => whnf
        refine ⟨[], rfl, ?_⟩
        rw [hI]
        (repeat' (first | exact True.intro | exact rfl | refine And.intro ?_ ?_))
      · rw [if_neg (by simp [q])] at hI
        refine ⟨_, _, hlf _, True.intro, ?_⟩
        conv => whnf
        refine And.intro (fun q2 => ?_) (fun q2 => ?_) <;> (conv => whnf)
        · rw [hleaf q2] at hI
          refine ⟨[], rfl, ?_⟩
          rw [hI]
          (repeat' (first | exact True.intro | exact rfl | refine And.intro ?_ ?_))
        · rcases p4 with ⟨p4, _⟩ | ⟨p4, p5, p6⟩
          · exact absurd p4 (hno q2)
          obtain ⟨x, hx⟩ : ∃ y, m.kids[i]? = some y := ⟨_, List.getElem?_eq_getElem (by omega)⟩
          rw [hx] at hI
          have hmx := List.mem_of_getElem? hx
          refine ⟨by omega, [encKs x.keys, encCs x.chains, encNs x.kids], by show (m.kids.map cNode)[((i : Nat) : Int).toNat]? = _; rw [Int.toNat_natCast, List.getElem?_map, hx, Option.map_some, cNode_eq], rfl, ?_⟩
          conv => whnf
          refine ⟨(e, x), [0], ⟨nOk_kid hm x hmx, ⟨1, (p6 x hmx).2⟩, hI⟩, by show e < e + 1; omega, And.intro rfl (And.intro ?_ ?_)⟩
          all_goals (repeat' (first | exact True.intro | exact rfl | refine And.intro ?_ ?_))
end Go.Proofs.Ve

/- The next key. -/
set_option maxRecDepth 100000
set_option maxHeartbeats 8000000
set_option linter.all false
namespace Go.Proofs.Ve
open Go
def stepO (n : Node) (k : List UInt8) (o : Option (List UInt8)) : Option (List UInt8) := match n.keys[bs n.keys k]? with | some x => some x | none => o
def nextN : Nat → Node → List UInt8 → Option (List UInt8) → Option (List UInt8)
  | 0, _, _, o => o
  | d + 1, n, k, o => if bsIs n.keys k || leafN n then stepO n k o else match n.kids[bs n.keys k]? with | some x => nextN d x k (stepO n k o) | none => o
def ansB (o : Option (List UInt8)) : PV := .tuple [.d (encB (o.getD [])), .d (.bool o.isSome)]
def nextA (d : Nat) (n : Node) (k : List UInt8) : Option (List UInt8) := if checkN d n then nextN d n k none else none
theorem d_next (d : Nat) (n : Node) (k : List UInt8) (hd : d ≤ 16) (hn : nOk d n) (H : List (List Blk)) : CallEq X H 50 [pNode n, .d (encB k)] (ansB (nextA d n k)) [] := by
  have hchk := fun H => d_check d n (by omega) hn H
  have hdeep : checkN d n = true → deepN n 0 ≠ 0 := fun h h' => by unfold checkN at h; rw [if_pos (by simp [h'])] at h; cases h
  have heq : nextA d n k = if checkN d n then nextN d n k none else none := rfl
  generalize nextA d n k = R at heq ⊢
  generalize checkN d n = C at hchk hdeep heq
  unfold ansB
  refine callEq_of_body X_ok rfl Try.func50 rfl ?_
  conv => whnf
  refine ⟨_, _, hchk _, True.intro, ?_⟩
  conv => whnf
  refine And.intro (fun q => ?_) (fun q => ?_) <;> (conv => whnf)
  · obtain rfl : C = false := by simpa using q
    obtain rfl : R = none := by simpa using heq
    exact ⟨[], rfl, by (repeat' (first | exact True.intro | exact rfl | refine And.intro ?_ ?_))⟩
  · obtain rfl : C = true := by simpa using q
    have heq : R = nextN d n k none := by simpa using heq
    refine loopV_of (fun i : Nat × Node × Option (List UInt8) => ⟨[.any, .d (encB k), .ptr 0 0 0, .any, .d (encB (i.2.2.getD [])), .d (.bool i.2.2.isSome), .any, .any, .any, .any, .any, .any, .any, .any, .any, .any, .any, .any, .any, .any, .any, .any, .any, .any, .any, .any, .any, .any, .any, .any, .any, .any, .any, .any, .any, .any, .any, .any, .any, .any], [bNode i.2.1]⟩)
      (fun i => nOk i.1 i.2.1 ∧ (∃ l, deepN i.2.1 l ≠ 0) ∧ (i.2.2.getD []).length ≤ 1000000 ∧ R = nextN i.1 i.2.1 k i.2.2) (fun i => i.1) (d, n, none) [0] ⟨hn, ⟨0, hdeep rfl⟩, by simp, heq⟩ ?_ ?_
    · refine And.intro rfl (And.intro ?_ ?_)
      all_goals (repeat' (first | exact True.intro | exact rfl | refine And.intro ?_ ?_))
    · rintro ⟨e, m, o⟩ ⟨hm, ⟨least, hl⟩, ho, hI⟩
      dsimp only at hm hl hI ho
      obtain ⟨e, rfl⟩ := nOk_pos hm
      have hp := fun H => d_place m k (by have := nOk_keys hm; omega) H
      have hlf := fun H => d_leaf m H
      obtain ⟨p1, p2, p3, p4⟩ := deep_parts hl
      have hle := bs_le m.keys k
      have hlt : bsIs m.keys k = true → bs m.keys k < m.keys.length := bsIs_lt
      have hso : stepO m k o = match m.keys[bs m.keys k]? with | some x => some x | none => o := rfl
      have ho' : ((stepO m k o).getD []).length ≤ 1000000 := by
        rw [hso]
        split
        · rename_i x hx; exact nOk_key hm x (List.mem_of_getElem? hx)
        · exact ho
      unfold nextN at hI
      generalize stepO m k o = o' at hso hI ho'
      generalize bs m.keys k = i at hp hle hlt hI hso
      generalize bsIs m.keys k = is at hp hlt hI
      have hleaf : leafN m = true → m.kids = [] := fun h => by unfold leafN at h; simpa using h
      have hno : leafN m = false → m.kids ≠ [] := fun h h' => by unfold leafN at h; rw [h'] at h; cases h
      generalize leafN m = lf at hlf hleaf hno hI
      have hcl := fun H => c103 (o'.getD []) (by omega) H
      conv => whnf
      refine ⟨_, _, hp _, True.intro, ?_⟩
      conv => whnf
      have kid : is = false → lf = false → ∃ x, m.kids[i]? = some x ∧ nOk e x ∧ deepN x 1 ≠ 0 ∧ R = nextN e x k o' := fun h1 h2 => by
        rcases p4 with ⟨p4, _⟩ | ⟨p4, p5, p6⟩
        · exact absurd p4 (hno h2)
        obtain ⟨x, hx⟩ : ∃ y, m.kids[i]? = some y := ⟨_, List.getElem?_eq_getElem (by omega)⟩
        rw [hx, h1, h2] at hI
        have hmx := List.mem_of_getElem? hx
        exact ⟨x, hx, nOk_kid hm x hmx, (p6 x hmx).2, hI⟩
      have ends : (is || lf) = true → R = o' := fun h => by rw [hI, if_pos h]
      have key : ∀ {x : List UInt8}, m.keys[i]? = some x → (m.keys.map fun k => [encB k])[((i : Nat) : Int).toNat]? = some [encB x] := fun h => by rw [Int.toNat_natCast, List.getElem?_map, h]; rfl
      refine And.intro (fun q => ?_) (fun q => ?_) <;> (conv => whnf)
      · have q' : i < m.keys.length := by simpa using q
        obtain ⟨x, hx⟩ : ∃ y, m.keys[i]? = some y := ⟨_, List.getElem?_eq_getElem q'⟩
        obtain rfl : o' = some x := by rw [hso, hx]
        refine ⟨by omega, [encB x], key hx, rfl, ?_⟩
        conv => whnf
        refine And.intro (fun q1 => ?_) (fun q1 => ?_) <;> (conv => whnf)
        rotate_left
        · refine ⟨_, _, hcl _, True.intro, ?_⟩
          conv => whnf
          refine ⟨[], rfl, ?_⟩
          rw [ends (by simp [q1])]
          (repeat' (first | exact True.intro | exact rfl | refine And.intro ?_ ?_))
        · refine ⟨_, _, hlf _, True.intro, ?_⟩
          conv => whnf
          refine And.intro (fun q2 => ?_) (fun q2 => ?_) <;> (conv => whnf)
          · refine ⟨_, _, hcl _, True.intro, ?_⟩
            conv => whnf
            refine ⟨[], rfl, ?_⟩
            rw [ends (by simp [q2])]
            (repeat' (first | exact True.intro | exact rfl | refine And.intro ?_ ?_))
          · obtain ⟨y, hy, k1, k2, k3⟩ := kid (by simpa using q1) (by simpa using q2)
            refine ⟨by omega, [encKs y.keys, encCs y.chains, encNs y.kids], by show (m.kids.map cNode)[((i : Nat) : Int).toNat]? = _; rw [Int.toNat_natCast, List.getElem?_map, hy, Option.map_some, cNode_eq], rfl, ?_⟩
            conv => whnf
            refine ⟨(e, y, some x), [0], ⟨k1, ⟨1, k2⟩, ho', k3⟩, by show e < e + 1; omega, And.intro rfl (And.intro ?_ ?_)⟩
            all_goals (repeat' (first | exact True.intro | exact rfl | refine And.intro ?_ ?_))
      · have q' : ¬ i < m.keys.length := by simpa using q
        have hnone : m.keys[i]? = none := List.getElem?_eq_none (by omega)
        obtain rfl : o' = o := by rw [hso, hnone]
        refine And.intro (fun q1 => ?_) (fun q1 => ?_) <;> (conv => whnf)
        rotate_left
        · exact absurd (hlt q1) q'
        · refine ⟨_, _, hlf _, True.intro, ?_⟩
          conv => whnf
          refine And.intro (fun q2 => ?_) (fun q2 => ?_) <;> (conv => whnf)
          · refine ⟨_, _, hcl _, True.intro, ?_⟩
            conv => whnf
            refine ⟨[], rfl, ?_⟩
            rw [ends (by simp [q2])]
            (repeat' (first | exact True.intro | exact rfl | refine And.intro ?_ ?_))
          · obtain ⟨y, hy, k1, k2, k3⟩ := kid (by simpa using q1) (by simpa using q2)
            refine ⟨by omega, [encKs y.keys, encCs y.chains, encNs y.kids], by show (m.kids.map cNode)[((i : Nat) : Int).toNat]? = _; rw [Int.toNat_natCast, List.getElem?_map, hy, Option.map_some, cNode_eq], rfl, ?_⟩
            conv => whnf
            refine ⟨(e, y, o'), [0], ⟨k1, ⟨1, k2⟩, ho', k3⟩, by show e < e + 1; omega, And.intro rfl (And.intro ?_ ?_)⟩
            all_goals (repeat' (first | exact True.intro | exact rfl | refine And.intro ?_ ?_))
end Go.Proofs.Ve

/- The document's versions: which may be, which are the same; nodes that are small. -/
set_option maxRecDepth 100000
set_option maxHeartbeats 8000000
set_option linter.all false
namespace Go.Proofs.Ve
open Go
def prevV (l : List Ver) (k : Nat) : Int := match k with | 0 => 0 | k + 1 => match l[k]? with | some x => x.stamp | none => 0
end Go.Proofs.Ve

/- Versions that are the same; nodes that are small. -/
set_option maxRecDepth 100000
set_option maxHeartbeats 8000000
set_option linter.all false
namespace Go.Proofs.Ve
open Go
def badV (x y : Ver) : Bool := ((x.stamp != y.stamp) || !(x.gone == y.gone)) || !(eqB x.val y.val)
def sameF {α : Type} (bad : α → α → Bool) : List α → List α → Bool
  | x :: xs, y :: ys => if bad x y then false else sameF bad xs ys
  | _, _ => true
theorem sameF_at {α : Type} {bad : α → α → Bool} {a b : List α} {k : Nat} {x y : α} (h : a[k]? = some x) (h' : b[k]? = some y) : sameF bad (a.drop k) (b.drop k) = if bad x y then false else sameF bad (a.drop (k + 1)) (b.drop (k + 1)) := by
  obtain ⟨hk, rfl⟩ := List.getElem?_eq_some_iff.1 h
  obtain ⟨hk', rfl⟩ := List.getElem?_eq_some_iff.1 h'
  rw [List.drop_eq_getElem_cons hk, List.drop_eq_getElem_cons hk']; rfl
def sameVs (a b : List Ver) : Bool := if ((a.length : Nat) : Int) != ((b.length : Nat) : Int) then false else sameF badV a b
def okVal (x : Ver) : Bool := decide ((x.val.length : Int) ≤ 100)
def okChain (c : List Ver) : Bool := decide ((c.length : Int) ≤ 20) && c.all okVal
def smallN : Nat → Node → Bool
  | 0, _ => false
  | d + 1, n => (decide ((n.keys.length : Int) ≤ 6) && decide ((n.chains.length : Int) ≤ 6) && decide ((n.kids.length : Int) ≤ 6)) && ((n.keys.all fun k => decide ((k.length : Int) ≤ 100)) && (n.chains.all okChain && n.kids.all (smallN d)))
theorem all_tk {α : Type} {p : α → Bool} {l : List α} {k : Nat} {x : α} (h : l[k]? = some x) : (l.drop k).all p = (p x && (l.drop (k + 1)).all p) := by
  obtain ⟨hk, rfl⟩ := List.getElem?_eq_some_iff.1 h
  rw [List.drop_eq_getElem_cons hk, List.all_cons]
theorem all_end {α : Type} {p : α → Bool} {l : List α} {k : Nat} (h : l.length ≤ k) : (l.drop k).all p = true := by rw [List.drop_eq_nil_of_le h]; rfl
theorem d_Small : ∀ (d : Nat) (n : Node) (H : List (List Blk)), d < 100 → CallEq X H 16 [pNode n, .d (.int .i64 ((d : Int) - 1))] (.d (.bool (smallN d n))) [] := by
  intro d
  induction d with
  | zero =>
    intro n H _
    refine callEq_of_body X_ok rfl Try.func16 rfl ?_
    conv => whnf
    refine And.intro (fun q => ?_) (fun q => ?_) <;> (conv => whnf)
    · exact absurd q (by decide)
    · exact ⟨[], rfl, by (repeat' (first | exact True.intro | exact rfl | refine And.intro ?_ ?_))⟩
  | succ d ih =>
    intro n H hd
    have hkid : ∀ x H, CallEq X H 16 [pNode x, .d (.int .i64 ((d : Int) - 1))] (.d (.bool (smallN d x))) [] := fun x H => ih x H (by omega)
    have heq : smallN (d + 1) n = ((decide ((n.keys.length : Int) ≤ 6) && decide ((n.chains.length : Int) ≤ 6) && decide ((n.kids.length : Int) ≤ 6)) && ((n.keys.all fun k => decide ((k.length : Int) ≤ 100)) && (n.chains.all okChain && n.kids.all (smallN d)))) := rfl
    generalize smallN (d + 1) n = R at heq ⊢
    refine callEq_of_body X_ok rfl Try.func16 rfl ?_
    conv => whnf
    have e1 : ((n.keys.map fun k => [encB k]).length : Int) = n.keys.length := by rw [List.length_map]
    have e2 : ((n.chains.map fun k => [encVs k]).length : Int) = n.chains.length := by rw [List.length_map]
    have e3 : ((n.kids.map cNode).length : Int) = n.kids.length := by rw [List.length_map]
    have nokA : decide (((n.keys.map fun k => [encB k]).length : Int) > 6) = true → R = false := fun h => by
      have h := of_decide_eq_true h
      rw [e1] at h
      rw [heq, decide_eq_false (by omega : ¬ ((n.keys.length : Int) ≤ 6))]; rfl
    have nokB : decide (((n.chains.map fun k => [encVs k]).length : Int) > 6) = true → R = false := fun h => by
      have h := of_decide_eq_true h
      rw [e2] at h
      rw [heq, decide_eq_false (by omega : ¬ ((n.chains.length : Int) ≤ 6))]; simp
    have nokC : decide (((n.kids.map cNode).length : Int) > 6) = true → R = false := fun h => by
      have h := of_decide_eq_true h
      rw [e3] at h
      rw [heq, decide_eq_false (by omega : ¬ ((n.kids.length : Int) ≤ 6))]; simp
    have r0 : ¬ (((d + 1 : Nat) : Int) - 1 < 0) := by omega
    have hwd : IntKind.i64.wrap (((d + 1 : Nat) : Int) - 1 - 1) = (d : Int) - 1 := by rw [IntKind.wrap_i64]; omega
    repeat' (first
      | (refine And.intro (fun q => ?_) (fun q => ?_) <;> (conv => whnf))
      | (refine ⟨[], rfl, ?_, True.intro⟩
         first
           | exact absurd (of_decide_eq_true q) r0
           | (rw [nokA q]; exact rfl)
           | (rw [nokB q]; exact rfl)
           | (rw [nokC q]; exact rfl)
         done)
      | fail)
    rename_i q3 q2 q1
    have l1 : n.keys.length ≤ 6 := by have := of_decide_eq_false q2; omega
    have l2 : n.chains.length ≤ 6 := by have := of_decide_eq_false q1; omega
    have l3 : n.kids.length ≤ 6 := by have := of_decide_eq_false q; omega
    have heq : R = ((n.keys.all fun k => decide ((k.length : Int) ≤ 100)) && (n.chains.all okChain && n.kids.all (smallN d))) := by
      rw [heq, decide_eq_true (by omega : (n.keys.length : Int) ≤ 6), decide_eq_true (by omega : (n.chains.length : Int) ≤ 6), decide_eq_true (by omega : (n.kids.length : Int) ≤ 6)]; rfl
    clear nokA nokB nokC q1 q2 q3 q
    have hw : ∀ i : Nat, i < 1000 → IntKind.i64.wrap ((i : Int) + 1) = (i : Int) + 1 := fun i h => wrap_small (by omega) (by omega)
    refine loopV_of (fun i : Nat => ⟨[.any, .d (.int .i64 (((d + 1 : Nat) : Int) - 1)), .ptr 0 0 0, .any, .any, .d (.int .i64 i), .any, .any, .any, .any, .any, .any, .any, .any, .any, .any, .any, .any, .any, .any, .any, .any, .any, .any, .any, .any, .any, .any, .any, .any, .any, .any, .any, .any, .any, .any, .any, .any, .any, .any, .any, .any, .any, .any, .any, .any, .any, .any, .any, .any, .any, .any, .any, .any, .any, .any, .any, .any, .any, .any, .any, .any, .any, .any, .any, .any, .any, .any, .any, .any, .any, .any, .any, .any, .any, .any, .any, .any, .any, .any, .any, .any, .any, .any, .any, .any, .any, .any, .any, .any, .any, .any, .any, .any, .any, .any], [bNode n]⟩)
      (fun i => i ≤ n.keys.length ∧ R = (((n.keys.drop i).all fun k => decide ((k.length : Int) ≤ 100)) && (n.chains.all okChain && n.kids.all (smallN d)))) (fun i => n.keys.length - i) 0 [0] ⟨Nat.zero_le _, heq⟩ ?_ ?_
    · refine And.intro rfl (And.intro ?_ ?_)
      all_goals (repeat' (first | exact True.intro | exact rfl | refine And.intro ?_ ?_))
    · rintro i ⟨hi, hI⟩
      conv => whnf
      refine And.intro (fun q => ?_) (fun q => ?_) <;> (conv => whnf)
      · have hi' : i < n.keys.length := by simpa using q
        obtain ⟨x, hx⟩ : ∃ x, n.keys[i]? = some x := ⟨_, List.getElem?_eq_getElem hi'⟩
        rw [all_tk hx] at hI
        have ex : ((x.map fun b => [DV.int .u8 (b.toNat : Int)]).length : Int) = x.length := by rw [List.length_map]
        refine ⟨by omega, [encB x], by show (n.keys.map fun k => [encB k])[((i : Nat) : Int).toNat]? = _; rw [Int.toNat_natCast, List.getElem?_map, hx]; rfl, rfl, ?_⟩
        conv => whnf
        refine And.intro (fun q => ?_) (fun q => ?_) <;> (conv => whnf)
        · have q := of_decide_eq_true q
          rw [ex] at q
          refine ⟨[], rfl, ?_, True.intro⟩
          rw [hI, decide_eq_false (by omega : ¬ ((x.length : Int) ≤ 100))]; exact rfl
        · have q := of_decide_eq_false q
          rw [ex] at q
          rw [decide_eq_true (by omega : (x.length : Int) ≤ 100), Bool.true_and] at hI
          intro z hz
          conv => whnf
          rw [hw i (by omega)] at hz
          subst hz
          refine ⟨i + 1, [0], ⟨hi', hI⟩, by omega, And.intro rfl (And.intro ?_ ?_)⟩
          all_goals (repeat' (first | exact True.intro | exact rfl | refine And.intro ?_ ?_))
      · rw [all_end (by simp at q; omega), Bool.true_and] at hI
        clear q hi
        refine loopV_of (fun i : Nat => ⟨[.any, .d (.int .i64 (((d + 1 : Nat) : Int) - 1)), .ptr 0 0 0, .any, .any, .any, .d (.int .i64 i), .any, .any, .any, .any, .any, .any, .any, .any, .any, .any, .any, .any, .any, .any, .any, .any, .any, .any, .any, .any, .any, .any, .any, .any, .any, .any, .any, .any, .any, .any, .any, .any, .any, .any, .any, .any, .any, .any, .any, .any, .any, .any, .any, .any, .any, .any, .any, .any, .any, .any, .any, .any, .any, .any, .any, .any, .any, .any, .any, .any, .any, .any, .any, .any, .any, .any, .any, .any, .any, .any, .any, .any, .any, .any, .any, .any, .any, .any, .any, .any, .any, .any, .any, .any, .any, .any, .any, .any, .any], [bNode n]⟩)
          (fun i => i ≤ n.chains.length ∧ R = ((n.chains.drop i).all okChain && n.kids.all (smallN d))) (fun i => n.chains.length - i) 0 [0] ⟨Nat.zero_le _, hI⟩ ?_ ?_
        · refine And.intro rfl (And.intro ?_ ?_)
          all_goals (repeat' (first | exact True.intro | exact rfl | refine And.intro ?_ ?_))
        · clear hI heq
          clear i
          rintro i ⟨hi, hI⟩
          conv => whnf
          refine And.intro (fun q => ?_) (fun q => ?_) <;> (conv => whnf)
          · have hi' : i < n.chains.length := by simpa using q
            obtain ⟨c, hc⟩ : ∃ x, n.chains[i]? = some x := ⟨_, List.getElem?_eq_getElem hi'⟩
            rw [all_tk hc] at hI
            have ex : ((c.map cVer).length : Int) = c.length := by rw [List.length_map]
            have hgc : (n.chains.map fun c => [encVs c])[((i : Nat) : Int).toNat]? = some [encVs c] := by rw [Int.toNat_natCast, List.getElem?_map, hc]; rfl
            refine ⟨by omega, [encVs c], hgc, rfl, ?_⟩
            conv => whnf
            refine And.intro (fun q => ?_) (fun q => ?_) <;> (conv => whnf)
            · have q := of_decide_eq_true q
              rw [ex] at q
              refine ⟨[], rfl, ?_, True.intro⟩
              rw [hI]; unfold okChain; rw [decide_eq_false (by omega : ¬ ((c.length : Int) ≤ 20))]; exact rfl
            · have q := of_decide_eq_false q
              rw [ex] at q
              unfold okChain at hI
              rw [decide_eq_true (by omega : (c.length : Int) ≤ 20), Bool.true_and] at hI
              refine loopV_of (fun j : Nat => ⟨[.any, .d (.int .i64 (((d + 1 : Nat) : Int) - 1)), .ptr 0 0 0, .any, .any, .any, .d (.int .i64 i), .d (.int .i64 j), .any, .any, .any, .any, .any, .any, .any, .any, .any, .any, .any, .any, .any, .any, .any, .any, .any, .any, .any, .any, .any, .any, .any, .any, .any, .any, .any, .any, .any, .any, .any, .any, .any, .any, .any, .any, .any, .any, .any, .any, .any, .any, .any, .any, .any, .any, .any, .any, .any, .any, .any, .any, .any, .any, .any, .any, .any, .any, .any, .any, .any, .any, .any, .any, .any, .any, .any, .any, .any, .any, .any, .any, .any, .any, .any, .any, .any, .any, .any, .any, .any, .any, .any, .any, .any, .any, .any, .any], [bNode n]⟩)
                (fun j => j ≤ c.length ∧ R = (((c.drop j).all okVal && (n.chains.drop (i + 1)).all okChain) && n.kids.all (smallN d))) (fun j => c.length - j) 0 [0] ⟨Nat.zero_le _, hI⟩ ?_ ?_
              · refine And.intro rfl (And.intro ?_ ?_)
                all_goals (repeat' (first | exact True.intro | exact rfl | refine And.intro ?_ ?_))
              · clear hI
                rintro j ⟨hj, hI⟩
                conv => whnf
                refine ⟨by omega, [encVs c], hgc, rfl, ?_⟩
                conv => whnf
                refine And.intro (fun q => ?_) (fun q => ?_) <;> (conv => whnf)
                · have hj' : j < c.length := by simpa using q
                  obtain ⟨v, hv⟩ : ∃ x, c[j]? = some x := ⟨_, List.getElem?_eq_getElem hj'⟩
                  rw [all_tk hv] at hI
                  have ev : ((v.val.map fun b => [DV.int .u8 (b.toNat : Int)]).length : Int) = v.val.length := by rw [List.length_map]
                  refine ⟨by omega, [encVs c], hgc, rfl, ?_⟩
                  conv => whnf
                  refine ⟨by omega, cVer v, by show (c.map cVer)[((j : Nat) : Int).toNat]? = _; rw [Int.toNat_natCast, List.getElem?_map, hv]; rfl, rfl, ?_⟩
                  conv => whnf
                  refine And.intro (fun q => ?_) (fun q => ?_) <;> (conv => whnf)
                  · have q := of_decide_eq_true q
                    rw [ev] at q
                    refine ⟨[], rfl, ?_, True.intro⟩
                    rw [hI]; unfold okVal; rw [decide_eq_false (by omega : ¬ ((v.val.length : Int) ≤ 100))]; exact rfl
                  · have q := of_decide_eq_false q
                    rw [ev] at q
                    rw [show okVal v = true from decide_eq_true (by omega), Bool.true_and] at hI
                    intro z hz
                    conv => whnf
                    rw [hw j (by omega)] at hz
                    subst hz
                    refine ⟨j + 1, [0], ⟨hj', hI⟩, by omega, And.intro rfl (And.intro ?_ ?_)⟩
                    all_goals (repeat' (first | exact True.intro | exact rfl | refine And.intro ?_ ?_))
                · rw [all_end (by simp at q; omega), Bool.true_and] at hI
                  intro z hz
                  conv => whnf
                  rw [hw i (by omega)] at hz
                  subst hz
                  refine ⟨i + 1, [0], ⟨hi', hI⟩, by omega, And.intro rfl (And.intro ?_ ?_)⟩
                  all_goals (repeat' (first | exact True.intro | exact rfl | refine And.intro ?_ ?_))
          · rw [all_end (by simp at q; omega), Bool.true_and] at hI
            clear q hi
            refine loopV_of (fun i : Nat => ⟨[.any, .d (.int .i64 (((d + 1 : Nat) : Int) - 1)), .ptr 0 0 0, .any, .any, .any, .any, .any, .d (.int .i64 i), .any, .any, .any, .any, .any, .any, .any, .any, .any, .any, .any, .any, .any, .any, .any, .any, .any, .any, .any, .any, .any, .any, .any, .any, .any, .any, .any, .any, .any, .any, .any, .any, .any, .any, .any, .any, .any, .any, .any, .any, .any, .any, .any, .any, .any, .any, .any, .any, .any, .any, .any, .any, .any, .any, .any, .any, .any, .any, .any, .any, .any, .any, .any, .any, .any, .any, .any, .any, .any, .any, .any, .any, .any, .any, .any, .any, .any, .any, .any, .any, .any, .any, .any, .any, .any, .any, .any], [bNode n]⟩)
              (fun i => i ≤ n.kids.length ∧ R = (n.kids.drop i).all (smallN d)) (fun i => n.kids.length - i) 0 [0] ⟨Nat.zero_le _, hI⟩ ?_ ?_
            · refine And.intro rfl (And.intro ?_ ?_)
              all_goals (repeat' (first | exact True.intro | exact rfl | refine And.intro ?_ ?_))
            · clear hI
              clear i
              rintro i ⟨hi, hI⟩
              conv => whnf
              refine And.intro (fun q => ?_) (fun q => ?_) <;> (conv => whnf)
              · have hi' : i < n.kids.length := by simpa using q
                obtain ⟨x, hx⟩ : ∃ x, n.kids[i]? = some x := ⟨_, List.getElem?_eq_getElem hi'⟩
                rw [all_tk hx] at hI
                refine ⟨by omega, [encKs x.keys, encCs x.chains, encNs x.kids], by show (n.kids.map cNode)[((i : Nat) : Int).toNat]? = _; rw [Int.toNat_natCast, List.getElem?_map, hx, Option.map_some, cNode_eq], rfl, ?_⟩
                conv => whnf
                intro z hz
                conv => whnf
                rw [hwd] at hz
                subst hz
                have hk := hkid x
                generalize smallN d x = b at hk hI
                refine ⟨_, _, hk _, True.intro, ?_⟩
                conv => whnf
                refine And.intro (fun q => ?_) (fun q => ?_) <;> (conv => whnf)
                · obtain rfl : b = false := by simpa using q
                  refine ⟨[], rfl, ?_, True.intro⟩
                  rw [hI]; exact rfl
                · obtain rfl : b = true := by simpa using q
                  intro z hz
                  conv => whnf
                  rw [hw i (by omega)] at hz
                  subst hz
                  refine ⟨i + 1, [0], ⟨hi', hI⟩, by omega, And.intro rfl (And.intro ?_ ?_)⟩
                  all_goals (repeat' (first | exact True.intro | exact rfl | refine And.intro ?_ ?_))
              · rw [all_end (by simp at q; omega)] at hI
                refine ⟨[], rfl, ?_, True.intro⟩
                rw [hI]; exact rfl
end Go.Proofs.Ve

/- The document's form, and pairs, of a node. -/
set_option maxRecDepth 100000
set_option maxHeartbeats 8000000
set_option linter.all false
namespace Go.Proofs.Ve
open Go
def negD (z : Int) : Int := if z == 0 then -1 else z
theorem negD_lt {z : Int} (h : 0 ≤ z) : negD z < 0 ↔ z = 0 := by unfold negD; split <;> rename_i h' <;> simp at h' <;> omega
theorem negD_ne {y z : Int} (h : 0 ≤ y) (h' : 0 ≤ z) : (negD y != negD z) = (y != z) := by
  unfold negD
  rw [Bool.eq_iff_iff]
  simp only [bne_iff_ne, ne_eq, beq_iff_eq]
  split <;> split <;> omega
def leastB (b : Bool) : Int := if b then 0 else 1
end Go.Proofs.Ve

/- The document's pairs of a node. -/
set_option maxRecDepth 100000
set_option maxHeartbeats 8000000
set_option linter.all false
namespace Go.Proofs.Ve
open Go
def cKV (p : KV) : List DV := [encB p.1, encVs p.2]
theorem posD_mono (d : Nat) (n : Node) {i j : Nat} (h : i ≤ j) : posD d n i ≤ posD d n j := by
  induction h with
  | refl => exact Nat.le_refl _
  | step _ ih => rw [posD_succ]; omega
theorem allD_pos (d : Nat) (n : Node) : (allD (d + 1) n).length = posD d n (n.keys.length + 1) := rfl
def preD (d : Nat) (n : Node) (i : Nat) : List KV := (List.range i).flatMap (segD d n)
theorem preD_len (d : Nat) (n : Node) (i : Nat) : (preD d n i).length = posD d n i := rfl
theorem preD_succ (d : Nat) (n : Node) (i : Nat) : preD d n (i + 1) = preD d n i ++ kidD d n i ++ pairD n i := by
  unfold preD; rw [List.range_succ, List.flatMap_append]; simp [segD]
end Go.Proofs.Ve

/- Plain laws: texts' order. -/
set_option linter.all false
namespace Go.Proofs.Ve
open Go
/-! ### texts' order -/
def cm (a b : List UInt8) : Int := Go.Lib.compareBytes a b
theorem cm_nn : cm [] [] = 0 := rfl
theorem cm_nc (b : UInt8) (bs : List UInt8) : cm [] (b :: bs) = -1 := rfl
theorem cm_cn (a : UInt8) (ts : List UInt8) : cm (a :: ts) [] = 1 := rfl
theorem cm_cc (a b : UInt8) (ts bs : List UInt8) : cm (a :: ts) (b :: bs) = if a < b then -1 else if b < a then 1 else cm ts bs := rfl
theorem cmpB_eq (a b : List UInt8) : cmpB a b = cm a b := Go.Lib.cmp_eq _ _
theorem u8 {a b : UInt8} : a < b ↔ a.toNat < b.toNat := UInt8.lt_iff_toNat_lt
theorem u8_eq {a b : UInt8} (h1 : ¬ a < b) (h2 : ¬ b < a) : a = b := UInt8.toNat_inj.1 (by rw [u8] at h1 h2; omega)
theorem cm_flip : ∀ (a b : List UInt8), cm b a = - cm a b
  | [], [] => rfl
  | [], _ :: _ => rfl
  | _ :: _, [] => rfl
  | a :: ts, b :: bs => by
    rw [cm_cc, cm_cc]
    by_cases h1 : a < b
    · have h2 : ¬ b < a := by rw [u8] at h1 ⊢; omega
      rw [if_neg h2, if_pos h1, if_pos h1]; rfl
    · by_cases h2 : b < a
      · rw [if_pos h2, if_neg h1, if_pos h2]
      · rw [if_neg h1, if_neg h2, if_neg h2, if_neg h1, cm_flip ts bs]
theorem cm_eq : ∀ (a b : List UInt8), cm a b = 0 ↔ a = b
  | [], [] => by simp [cm_nn]
  | [], _ :: _ => by simp [cm_nc]
  | _ :: _, [] => by simp [cm_cn]
  | a :: ts, b :: bs => by
    rw [cm_cc]
    by_cases h1 : a < b
    · rw [if_pos h1]
      have : a ≠ b := fun e => by subst e; rw [u8] at h1; omega
      simp [this]
    · by_cases h2 : b < a
      · rw [if_neg h1, if_pos h2]
        have : a ≠ b := fun e => by subst e; rw [u8] at h2; omega
        simp [this]
      · rw [if_neg h1, if_neg h2, cm_eq ts bs]
        simp [u8_eq h1 h2]
theorem cm_self (a : List UInt8) : cm a a = 0 := (cm_eq a a).2 rfl
theorem cm_trans : ∀ (a b c : List UInt8), cm a b ≤ 0 → cm b c ≤ 0 → cm a c ≤ 0
  | [], _, [], _, _ => by simp [cm_nn]
  | [], _, _ :: _, _, _ => by simp [cm_nc]
  | _ :: _, [], _, h, _ => by simp [cm_cn] at h
  | _ :: _, _ :: _, [], _, h => by simp [cm_cn] at h
  | a :: ts, b :: bs, c :: cs, h, h' => by
    rw [cm_cc] at h h' ⊢
    by_cases h1 : a < b
    · by_cases h3 : b < c
      · rw [if_pos (by rw [u8] at *; omega)]; decide
      · by_cases h4 : c < b
        · rw [if_neg h3, if_pos h4] at h'; simp at h'
        · rw [← u8_eq h3 h4, if_pos h1]; decide
    · by_cases h2 : b < a
      · rw [if_neg h1, if_pos h2] at h; simp at h
      · have e := u8_eq h1 h2
        subst e
        rw [if_neg h1, if_neg h1] at h
        by_cases h3 : a < c
        · rw [if_pos h3]; decide
        · by_cases h4 : c < a
          · rw [if_neg h3, if_pos h4] at h'; simp at h'
          · rw [if_neg h3, if_neg h4] at h' ⊢
            exact cm_trans ts bs cs h h'
theorem cm_range (a b : List UInt8) : cm a b = -1 ∨ cm a b = 0 ∨ cm a b = 1 := by
  induction a generalizing b with
  | nil => cases b <;> simp [cm_nn, cm_nc]
  | cons x a ih =>
    cases b with
    | nil => simp [cm_cn]
    | cons y b =>
      rw [cm_cc]
      by_cases h1 : x < y
      · simp [h1]
      · by_cases h2 : y < x
        · simp [h1, h2]
        · rw [if_neg h1, if_neg h2]; exact ih b
theorem less_eq : ∀ (a b : List UInt8), Op.bytesLess a b = decide (cm a b < 0)
  | [], [] => rfl
  | [], _ :: _ => rfl
  | _ :: _, [] => rfl
  | a :: ts, b :: bs => by
    rw [Op.bytesLess, cm_cc, less_eq ts bs]
    by_cases h1 : a < b
    · simp [h1]
    · by_cases h2 : b < a
      · have : a ≠ b := fun e => by subst e; exact h1 h2
        simp [h1, h2, this]
      · simp [h1, h2, u8_eq h1 h2]
theorem toBA_list (a : List UInt8) : (toBA a).toList = a := by
  have : (toBA a).toList = (toBA a).data.toList := ByteArray.toList_eq _
  rw [this]; rfl
theorem ltB_eq (a b : List UInt8) : ltB a b = decide (cm a b < 0) := by unfold ltB; rw [toBA_list, toBA_list, less_eq]
theorem eqB_eq (a b : List UInt8) : eqB a b = decide (cm a b = 0) := by
  unfold eqB
  rw [toBA_list, toBA_list]
  by_cases h : a = b
  · subst h; simp [cm_self]
  · have : cm a b ≠ 0 := fun e => h ((cm_eq a b).1 e)
    simp [h, this]
end Go.Proofs.Ve

/- The document's answer: whether an index may be, its pairs, how deep it is. -/
set_option maxRecDepth 100000
set_option maxHeartbeats 8000000
set_option linter.all false
namespace Go.Proofs.Ve
open Go
theorem geq_eq (a b : List UInt8) : (!ltB a b) = decide (cmpB a b ≥ 0) := by
  rw [ltB_eq, cmpB_eq, Bool.eq_iff_iff]; simp
def pairsN (d : Nat) (n : Node) : List KV := if checkN d n then allD d n else []
theorem check_deep {d : Nat} {n : Node} (h : checkN d n = true) : deepN n 0 ≠ 0 := fun h' => by unfold checkN at h; rw [if_pos (by simp [h'])] at h; cases h
end Go.Proofs.Ve

/- The document's Find, Next, Same; the law's own helpers. -/
set_option maxRecDepth 100000
set_option maxHeartbeats 8000000
set_option linter.all false
namespace Go.Proofs.Ve
open Go
def findAt : List KV → List UInt8 → Nat → Int
  | [], _, _ => -1
  | p :: ps, k, i => if eqB p.1 k then (i : Int) else findAt ps k (i + 1)
theorem findAt_at {l : List KV} {k : List UInt8} {i : Nat} {p : KV} (h : l[i]? = some p) : findAt (l.drop i) k i = if eqB p.1 k then (i : Int) else findAt (l.drop (i + 1)) k (i + 1) := by
  obtain ⟨hk, rfl⟩ := List.getElem?_eq_some_iff.1 h
  rw [List.drop_eq_getElem_cons hk]; rfl
def nextAt : List KV → List UInt8 → Nat → Nat
  | [], _, i => i
  | p :: ps, k, i => if ltB p.1 k then nextAt ps k (i + 1) else i
theorem nextAt_at {l : List KV} {k : List UInt8} {i : Nat} {p : KV} (h : l[i]? = some p) : nextAt (l.drop i) k i = if ltB p.1 k then nextAt (l.drop (i + 1)) k (i + 1) else i := by
  obtain ⟨hk, rfl⟩ := List.getElem?_eq_some_iff.1 h
  rw [List.drop_eq_getElem_cons hk]; rfl
def badP (p q : KV) : Bool := (!sameVs p.2 q.2) || !(eqB p.1 q.1)
def sameKV (a b : List KV) : Bool := if ((a.length : Nat) : Int) != ((b.length : Nat) : Int) then false else sameF badP a b
end Go.Proofs.Ve

/- The law's own helpers. -/
set_option maxRecDepth 100000
set_option maxHeartbeats 8000000
set_option linter.all false
namespace Go.Proofs.Ve
open Go
theorem d_keys (d : Nat) (n : Node) (hd : d ≤ 16) (hn : nOk d n) (H : List (List Blk)) : CallEq X H 28 [pNode n] (.d (encKs (keysN d n))) [] :=
  (d_keysR d n hd hn H).freeze 1 (by
    show PV.d (.sl ((rowK (keysN d n)).take (keysN d n).length)) = _
    rw [List.take_of_length_le (by unfold rowK; rw [List.length_map]; exact Nat.le_refl _)]; rfl)
def lawPairs (d : Nat) (n : Node) : List KV := (keysN d n).map fun k => (k, (findA d n k).getD [])
theorem smallN_ok : ∀ (d : Nat) (n : Node), smallN d n = true → nOk d n
  | 0, n, h => by cases h
  | d + 1, n, h => by
    simp only [smallN, Bool.and_eq_true, decide_eq_true_eq, List.all_eq_true] at h
    obtain ⟨⟨⟨h1, h2⟩, h3⟩, h4, h5, h6⟩ := h
    refine ⟨by omega, by omega, by omega, fun x hx => by have := h4 x hx; omega, fun y hy => ?_, fun x hx => smallN_ok d x (h6 x hx)⟩
    have := h5 y hy
    simp only [okChain, Bool.and_eq_true, decide_eq_true_eq, List.all_eq_true] at this
    obtain ⟨g1, g2⟩ := this
    refine ⟨by omega, fun v hv => ?_⟩
    have := g2 v hv
    simp only [okVal, decide_eq_true_eq] at this
    omega
end Go.Proofs.Ve

/- Insert, Delete: contracts. -/
set_option maxRecDepth 100000
set_option linter.all false
namespace Go.Proofs.Ve
open Go Go.Proofs Go.Shelf Go.RowKit Go.Lib
/-- A row that was given comes back as a new name: turned in place, or a new block. -/
theorem give_row {m : M} {H : List (List Blk)} {e sz : Nat} {xs xs' : List (List DV)} {v v' : Value} (hinv : Inv m [.row e sz xs] H) (hρ : m.ρ 0 0 = some v) (hfree : ∀ i, 1 ≤ i → m.ρ 0 i = none) {w' : World} {flat : List Value} (hxs : ∀ x ∈ xs', x.length = sz)
    (hown : w'.ownsRow 0 e sz v' xs'.length flat) (hgr : m.w.grownBy w' (blkOf v)) (hat : blkOf v' = blkOf v ∨ blkOf v' = some m.w.heap.size)
    (hc : ∀ (i : Nat) x (j : Nat) y u, xs'[i]? = some x → x[j]? = some y → flat[i * sz + j]? = some u → RD m.w m.ok y u) :
    ∃ m', m'.w = w' ∧ Since (M0.of m [.row e sz xs]) m' [.row e sz xs', .dead] ∧ m'.ρ 0 1 = m.ρ 0 0 ∧ Inv m' [.row e sz xs', .dead] H ∧ m'.ρ 0 0 = some v' := by
  obtain ⟨h0, _⟩ := hinv.blk 0 0 _ rfl v hρ
  have hvU : ∀ k, blkOf v = some k → m.U k := fun k hk => hinv.own 0 0 _ v k rfl rfl hρ hk
  have mine : ∀ k, blkOf v = some k → Mine m [.row e sz xs] k := fun k hk => ⟨0, _, v, rfl, rfl, hρ, hk⟩
  have hv' : ∀ k, blkOf v' = some k → k < w'.heap.size ∧ (m.U k ∧ blkOf v = some k ∨ k = m.w.heap.size) := fun k hk => by
    refine ⟨?_, ?_⟩
    · rcases hown.2 with ⟨b, _⟩ | ⟨g, cap, cur, b1, _, b3, _⟩
      · rw [b] at hk; cases hk
      · rw [b1] at hk; cases hk; exact (Array.getElem?_eq_some_iff.1 b3).1
    · rcases hat with h | h
      · rw [h] at hk; exact .inl ⟨hvU k hk, hk⟩
      · rw [h] at hk; cases hk; exact .inr rfl
  let m' : M := ⟨w', fun l i => match l with | 0 => if i = 0 then some v' else if i = 1 then m.ρ 0 0 else none | l + 1 => m.ρ (l + 1) i, fun k => m.U k ∨ blkOf v' = some k⟩
  have h00 : m'.ρ 0 0 = some v' := rfl
  have h01 : m'.ρ 0 1 = m.ρ 0 0 := rfl
  have hup : ∀ l i, m'.ρ (l + 1) i = m.ρ (l + 1) i := fun _ _ => rfl
  have hUold : ∀ k, k < m.w.heap.size → (m'.U k ↔ m.U k) := fun k hk => ⟨fun h => by
    rcases h with h | h
    · exact h
    · rcases (hv' k h).2 with ⟨h, _⟩ | h
      · exact h
      · omega, .inl⟩
  have hne : ∀ k, m.U k → (blkOf v ≠ some k) → w'.heap[k]? = m.w.heap[k]? := fun k hk hne => hgr.block k (hinv.lt k hk) (fun h => hne h.symm)
  have okk : ∀ k, m.ok k → m'.ok k ∧ w'.heap[k]? = m.w.heap[k]? := fun k hk => by
    refine ⟨⟨Nat.lt_of_lt_of_le hk.1 hgr.size, fun h => hk.2 ((hUold k hk.1).1 h)⟩, hgr.block k hk.1 (fun h => hk.2 (hvU k h.symm))⟩
  have get : ∀ l i b, getB [.row e sz xs', .dead] H l i = some b → b.live = true → (l = 0 ∧ i = 0 ∧ b = .row e sz xs') ∨ (∃ l', l = l' + 1 ∧ getB [.row e sz xs] H l i = some b) := by
    intro l i b hb hl
    cases l with
    | zero =>
      match i, hb with
      | 0, hb => simp [getB] at hb; exact .inl ⟨rfl, rfl, hb.symm⟩
      | 1, hb => simp [getB] at hb; subst hb; cases hl
      | i + 2, hb => simp [getB] at hb
    | succ l => exact .inr ⟨l, rfl, hb⟩
  -- other frames' blocks are none of these
  have far : ∀ l i b u k, getB [.row e sz xs] H (l + 1) i = some b → b.live = true → m.ρ (l + 1) i = some u → b.has m.w u k → blkOf v ≠ some k ∧ blkOf v' ≠ some k := fun l i b u k hb hl hu hk => by
    have hU := hinv.own (l + 1) i b u k hb hl hu hk
    have h1 : blkOf v ≠ some k := fun h => by
      have := (hinv.inj (l + 1) i b 0 0 _ u v k hb hl rfl rfl hu hρ hk h).1
      cases this
    refine ⟨h1, fun h => ?_⟩
    rcases (hv' k h).2 with ⟨_, h⟩ | h
    · exact h1 h
    · have := hinv.lt k hU; omega
  have fb : ∀ l i b u k, getB [.row e sz xs] H (l + 1) i = some b → b.live = true → m.ρ (l + 1) i = some u → b.has w' u k → b.has m.w u k := fun l i b u k hb hl hu hk => hinv.back hb hl hu (fun j hj hjk => hne j hj (far l i b u j hb hl hu hjk).1) hk
  have hK : Keep ⟨m.w, fun l i => match l with | 0 => none | l + 1 => m.ρ (l + 1) i, m.U⟩ m' := ⟨fun l i u hu => by
    cases l with
    | zero => cases hu
    | succ l => exact hu, hgr.size, fun k hk => ⟨(okk k hk).1.2, (okk k hk).2⟩⟩
  refine ⟨m', rfl, ⟨hgr.os, hgr.tape, hgr.output, hgr.size, fun k hk hn _ => hgr.block k hk (fun h => hn (mine k h.symm)), fun _ _ => rfl, fun k hk => hUold k hk, fun k ⟨j, b, u, hb, hl, hu, hk⟩ => ?_⟩, h01, ⟨fun l i b hb => ?_, fun l i b l' i' b' u u' k h1 h2 h3 h4 h5 h6 h7 h8 => ?_, fun l i b u k h1 h2 h3 h4 => ?_, fun k hk => ?_, Views.none fun i p e c h => by match i, h with | 0, h => simp at h | 1, h => simp at h | i + 2, h => simp at h⟩, h00⟩
  · match j, hb, hu with
    | 0, hb, hu =>
      change m'.ρ 0 0 = some u at hu
      rw [h00] at hu; cases hu
      cases hb
      rcases (hv' k hk).2 with ⟨_, h⟩ | h
      · exact .inr (mine k h)
      · exact .inl (by rw [h]; exact Nat.le_refl _)
    | 1, hb, hu => simp at hb; subst hb; cases hl
    | j + 2, hb, hu => simp at hb
  · cases hlv : b.live with
    | false => cases b <;> first | (simp [Blk.live] at hlv; done) | trivial
    | true =>
      rcases get l i b hb hlv with ⟨rfl, rfl, rfl⟩ | ⟨l', rfl, hb'⟩
      · intro u hu
        change m'.ρ 0 0 = some u at hu
        rw [h00] at hu; cases hu
        exact ⟨h0, hxs, flat, hown, fun i x j y u hx hy hu => (hc i x j y u hx hy hu).mono okk⟩
      · have hb2 := hinv.blk (l' + 1) i b hb'
        have hb3 : BlkOk ⟨m.w, fun l i => match l with | 0 => none | l + 1 => m.ρ (l + 1) i, m.U⟩ (l' + 1) i b := by
          cases b with
          | dead => trivial
          | gen Y st => trivial
          | row e sz xs => exact hb2
          | deep e sz xs => exact hb2
          | sub _ _ _ => trivial
          | box cs =>
            intro u hu
            obtain ⟨g, us, t, q1, q2, q3, q4⟩ := hb2 u hu
            refine ⟨g, us, t, q1, q2, q3, fun j p x hp hx => (q4 j p x hp hx).keep ?_⟩
            exact ⟨fun a i u hu => by
              show (match a + (l' + 1) with | 0 => none | l + 1 => m.ρ (l + 1) i) = some u
              exact hu, Nat.le_refl _, fun k hk => ⟨hk.2, rfl⟩⟩
        exact hb3.keep hK (hup l' i) (fun u k hl hu hk => hne k (hinv.own _ i b u k hb' hl hu hk) (far l' i b u k hb' hl hu hk).1)
  · rcases get l i b h1 h2 with ⟨rfl, rfl, rfl⟩ | ⟨a, rfl, hb⟩ <;> rcases get l' i' b' h3 h4 with ⟨rfl, rfl, rfl⟩ | ⟨a', rfl, hb'⟩
    · exact ⟨rfl, rfl⟩
    · exfalso
      change m'.ρ 0 0 = some u at h5
      rw [h00] at h5; cases h5
      exact (far a' i' b' u' k hb' h4 h6 (fb a' i' b' u' k hb' h4 h6 h8)).2 h7
    · exfalso
      change m'.ρ 0 0 = some u' at h6
      rw [h00] at h6; cases h6
      exact (far a i b u k hb h2 h5 (fb a i b u k hb h2 h5 h7)).2 h8
    · exact hinv.inj _ i b _ i' b' u u' k hb h2 hb' h4 h5 h6 (fb a i b u k hb h2 h5 h7) (fb a' i' b' u' k hb' h4 h6 h8)
  · rcases get l i b h1 h2 with ⟨rfl, rfl, rfl⟩ | ⟨a, rfl, hb⟩
    · change m'.ρ 0 0 = some u at h3
      rw [h00] at h3; cases h3; exact .inr h4
    · exact .inl (hinv.own _ i b u k hb h2 h3 (fb a i b u k hb h2 h3 h4))
  · rcases hk with hk | hk
    · exact Nat.lt_of_lt_of_le (hinv.lt k hk) hgr.size
    · exact (hv' k hk).1
theorem own_blk (v : Value) : v.ownBlock = blkOf v ∨ ∃ a, v = .pointer (some a) := by
  unfold Value.ownBlock blkOf
  split
  · exact .inl rfl
  · rename_i h
    split
    · exact .inr ⟨_, rfl⟩
    · exact absurd rfl (h _ _ _)
    · exact .inl rfl
theorem own_slice (A : Option Addr) (n c : Nat) : (Value.slice A n c).ownBlock = blkOf (.slice A n c) := by cases A <;> rfl
theorem ins_eq {ρ : Ren} {zr : Value} (L : InsL X.P ρ zr) (xs : List (List DV)) (hx : ∀ x ∈ xs, x.length = 1) (i : Nat) (hi : i ≤ xs.length) (y : DV) (hbig : xs.length < 1000000) (H : List (List Blk)) :
    CallEqG X H (ρ.f 22) [⟨ρ.t 9, 1, xs⟩] [.row 0 0 xs.length, .d (.int .i64 i), .d (.sl [[y]])] [none] (.row 0 0 (xs.length + 1)) [⟨ρ.t 9, 1, xs.take i ++ [[y]] ++ xs.drop i⟩] := by
  unfold CallEqG
  refine ⟨rfl, fun m vs hinv hfree hlen hargs => ?_⟩
  obtain ⟨v0, v1, v2, rfl⟩ : ∃ v0 v1 v2, vs = #[v0, v1, v2] := by
    match vs, hlen with
    | ⟨[a, b, c]⟩, _ => exact ⟨a, b, c, rfl⟩
  have a0 := hargs 0 _ v0 rfl rfl
  have a1 := hargs 1 _ v1 rfl rfl
  have a2 := hargs 2 _ v2 rfl rfl
  cases a1 with
  | d _ _ a1 =>
  cases a1
  cases a2 with
  | d _ _ a2 =>
  cases a2 with
  | sl sz _ A2 n2 c2 ad u hn2 hc2 hm2 hA2 hs2 hcell2 hr2 =>
  obtain rfl : n2 = 1 := by simpa using hn2.symm
  obtain rfl := hA2 (by decide)
  have hsz : sz = 1 := by have := hs2 [y] (by simp); simpa using this.symm
  subst hsz
  obtain ⟨hok, hcell⟩ := hcell2 0 [y] 0 y rfl rfl
  have hry := hr2 0 [y] 0 y rfl rfl
  obtain ⟨vb, voff, sp⟩ := ad
  cases sp with
  | some s =>
    exfalso
    have : (m.w.cell? ((⟨vb, voff, some s⟩ : Addr).add 0)) = none := by
      unfold World.cell? Addr.add
      simp
      split <;> rfl
    rw [Nat.zero_mul, Nat.add_zero, this] at hcell; cases hcell
  | none =>
  rw [Addr.add_lit] at hcell
  simp only [Nat.zero_mul, Nat.add_zero] at hcell hry
  cases a0 with
  | row _ _ _ Nn c A hρ hn hc =>
    have hb := hinv.blk 0 0 _ rfl _ hρ
    obtain ⟨h0, _, flat, hown, hrd⟩ := hb
    change m.w.ownsRow 0 (ρ.t 9) 1 (.slice A Nn c) xs.length flat at hown
    change ∀ (i : Nat) x (j : Nat) y u, xs[i]? = some x → x[j]? = some y → flat[i * 1 + j]? = some u → RD m.w m.ok y u at hrd
    have hNn : Nn = xs.length := by
      rcases hown.2 with ⟨b, b'⟩ | ⟨g, cap, cur, b1, _⟩
      · cases b; exact b'.symm
      · cases b1; rfl
    subst hNn
    have hfl : flat.length = xs.length := by have := hown.1; omega
    have hvU : ∀ k, blkOf (.slice A xs.length c) = some k → m.U k := fun k hk => hinv.own 0 0 _ _ k rfl rfl hρ hk
    have hflat : ∀ (j : Nat) u, flat[j]? = some u → ∃ y, xs[j]? = some [y] ∧ RD m.w m.ok y u := fun j u hu => by
      have hj : j < xs.length := by have := (List.getElem?_eq_some_iff.1 hu).1; omega
      obtain ⟨x, hxj⟩ : ∃ x, xs[j]? = some x := ⟨_, List.getElem?_eq_getElem hj⟩
      have hl := hx x (List.mem_of_getElem? hxj)
      match x, hl with
      | [y], _ => exact ⟨y, hxj, hrd j [y] 0 y u hxj rfl (by rw [Nat.mul_one, Nat.add_zero]; exact hu)⟩
    refine (ins_own L (.slice A xs.length c) xs.length i 1 flat [u 0] vb voff c2 m.w hown hi (by decide) rfl (by omega) (fun w hw => ?_) (fun w hw => ?_) (fun j w hw => ?_) (fun h => ?_)).mono ?_
    · obtain ⟨j, hj⟩ := List.getElem?_of_mem hw
      obtain ⟨y, _, h⟩ := hflat j w hj
      exact h.one
    · simp at hw; subst hw; exact hry.one
    · cases j with
      | zero => simp at hw; subst hw; exact hcell
      | succ j => simp at hw
    · rw [own_slice] at h
      exact hok.2 (hvU vb h)
    · rintro e w' ⟨v', rfl, hown', hgr, hat⟩
      have hv'b : v'.ownBlock = blkOf v' := by
        rcases hown'.2 with ⟨b, _⟩ | ⟨g, cap, cur, b1, _⟩
        · rw [b]; rfl
        · rw [b1]; rfl
      rw [own_slice] at hgr hat
      rw [hv'b] at hat
      have hlen' : (xs.take i ++ [[y]] ++ xs.drop i).length = xs.length + 1 := by simp; omega
      have hall : ∀ x ∈ xs.take i ++ [[y]] ++ xs.drop i, x.length = 1 := fun x hxm => by
        simp only [List.mem_append, List.mem_singleton] at hxm
        rcases hxm with (h | h) | h
        · exact hx x (List.mem_of_mem_take h)
        · rw [h]; rfl
        · exact hx x (List.mem_of_mem_drop h)
      obtain ⟨m', e1, e2, e3, e4, e5⟩ := give_row (xs' := xs.take i ++ [[y]] ++ xs.drop i) (v' := v') hinv hρ hfree hall (by rw [hlen']; exact hown') hgr hat (fun k x j z u' hk hj hu => by
        have hxl := hall x (List.mem_of_getElem? hk)
        obtain rfl : j = 0 := by have := (List.getElem?_eq_some_iff.1 hj).1; omega
        rw [Nat.mul_one, Nat.add_zero, ins_get (m := 1) (by omega) rfl] at hu
        rw [ins_get (m := 1) hi rfl] at hk
        by_cases h1 : k < i
        · rw [if_pos h1] at hu hk
          obtain ⟨q, hq, hr⟩ := hflat k u' hu
          rw [hq] at hk; cases hk; simp at hj; subst hj; exact hr
        · rw [if_neg h1] at hu hk
          by_cases h2 : k < i + 1
          · rw [if_pos h2] at hu hk
            obtain rfl : k = i := by omega
            simp at hu hk
            subst hk; subst hu; simp at hj; subst hj
            exact hry
          · rw [if_neg h2] at hu hk
            obtain ⟨q, hq, hr⟩ := hflat (k - 1) u' hu
            rw [hq] at hk; cases hk; simp at hj; subst hj; exact hr)
      refine ⟨v', m', rfl, e1, e2, fun i hi => ?_, e4, ?_⟩
      · obtain rfl : i = 0 := by simpa using hi
        exact e3
      · rcases hown'.2 with ⟨b, b'⟩ | ⟨g, cap, cur, b1, _, _, b2, _⟩
        · omega
        · subst b1
          exact .row 0 0 _ _ _ _ e5 (Nat.le_refl _) b2
/-! ### Delete -/
abbrev OneV := { v : Value // v.oneCell' = true }
def zeroV : OneV := ⟨.slice none 0 0, rfl⟩
instance : Inhabited OneV := ⟨zeroV⟩
theorem holds_flat {w : World} {g : Nat} {cur : Array Value} {e : TypeId} {xs : List OneV} (hg : w.heap[g]? = some (.cells cur e (0, 0))) (h : ∀ j, j < xs.length → cur[j]? = (xs[j]?).map (·.1)) : Go.Sort.Holds (Subtype.val : OneV → Value) w g 0 xs.toArray := by
  intro j hj
  have hj' : j < xs.length := by simpa using hj
  refine ⟨?_, frozen_none hg _⟩
  rw [cell_at hg, Nat.zero_add, h j hj', List.getElem?_eq_getElem hj']
  simp [hj']
theorem del_own {P : Program} {ρ : Ren} (L : SlLaysE.n45 P ρ) (v23 : ∀ w, (zeroValue (ρ.t 23)).run P w = .ok (.slice none 0 0) w) (i0 : TypeInfo) (hi0 : P.info? (ρ.t 23) = some i0) (hz1 : i0.size = 1) (g n cap i j : Nat) (cur : Array Value) (xs : List OneV) (w : World)
    (hg : w.heap[g]? = some (.cells cur (ρ.t 23) (0, 0))) (hn : xs.length = n) (h1 : n ≤ cap) (h2 : cap ≤ maxLen) (h3 : cur.size = cap) (h4 : cur.toList.take n = xs.map (·.1)) (hij : i ≤ j) (hj : j ≤ n) :
    Calls P (ρ.f 45) #[.slice (some ⟨g, 0, none⟩) n cap, .int .i64 i, .int .i64 j] w fun e w' => e = .returned (.slice (some ⟨g, 0, none⟩) (n - (j - i)) cap) ∧
      w'.ownsRow 0 (ρ.t 23) 1 (.slice (some ⟨g, 0, none⟩) n cap) n ((xs.take i ++ xs.drop j ++ List.replicate (j - i) zeroV).map (fun x : OneV => x.1)) ∧ w.grownBy w' (some g) := by
  have hcur : ∀ k, k < n → cur[k]? = (xs[k]?).map (·.1) := fun k hk => by
    have := congrArg (fun l => l[k]?) h4
    simpa [List.getElem?_take, hk] using this
  have hH := holds_flat hg (fun k hk => hcur k (by omega))
  have hsz : xs.toArray.size = n := by simpa using hn
  have := AnyE.slices_Delete L (Subtype.val : OneV → Value) (fun x => x.2) zeroV v23 i0 hi0 hz1 g 0 cap i j xs.toArray w hH (by omega) (Nat.le_trans h2 (by unfold maxLen; decide)) hij (by omega)
  rw [hsz] at this
  refine this.mono ?_
  rintro e w' ⟨rfl, q, hw⟩
  generalize hys : xs.take i ++ xs.drop j ++ List.replicate (j - i) zeroV = ys
  have hyl : ys.length = n := by rw [← hys]; simp; omega
  have hys' : (xs.toArray.toList.take i ++ xs.toArray.toList.drop j ++ List.replicate (j - i) zeroV).toArray = ys.toArray := by rw [← hys]
  rw [hys', putRow_eq_setCells (Subtype.val : OneV → Value) w g 0 xs.toArray ys q hH (by omega)] at hw
  obtain ⟨cur', c1, c2, c3⟩ := setCells_block (ys.map (·.1)) 0 (w.drewN q) cur hg
  obtain ⟨o1, o2, o3, o4, o5⟩ := setCells_rest g (ys.map (·.1)) 0 (w.drewN q)
  rw [← hw] at c1 o1 o2 o3 o4 o5
  refine ⟨rfl, ⟨by simp [hyl], .inr ⟨g, cap, cur', rfl, Nat.zero_le _, c1, h1, h2, by omega, ?_⟩⟩, ⟨o1, o2, o3, Nat.le_of_eq o4.symm, fun k hk hne => o5 k (fun e => hne (by rw [e]))⟩⟩
  apply List.ext_getElem?
  intro k
  rw [List.getElem?_take, Nat.mul_one]
  by_cases hk : k < n
  · rw [if_pos hk, Array.getElem?_toList, c3 k, if_pos (by rw [List.length_map]; omega), Nat.sub_zero]
  · rw [if_neg hk, List.getElem?_eq_none (by rw [List.length_map]; omega)]
theorem del_eq {ρ : Ren} (L : SlLaysE.n45 X.P ρ) (v23 : ∀ w, (zeroValue (ρ.t 23)).run X.P w = .ok (.slice none 0 0) w) (i0 : TypeInfo) (hi0 : X.P.info? (ρ.t 23) = some i0) (hz1 : i0.size = 1) (xs : List (List DV)) (hx : ∀ x ∈ xs, x.length = 1) (i j : Nat) (hij : i ≤ j) (hj : j ≤ xs.length) (h0 : 0 < xs.length) (H : List (List Blk)) :
    CallEqG X H (ρ.f 45) [⟨ρ.t 23, 1, xs⟩] [.row 0 0 xs.length, .d (.int .i64 i), .d (.int .i64 j)] [none] (.row 0 0 (xs.length - (j - i))) [⟨ρ.t 23, 1, xs.take i ++ xs.drop j ++ List.replicate (j - i) [.sl []]⟩] := by
  unfold CallEqG
  refine ⟨rfl, fun m vs hinv hfree hlen hargs => ?_⟩
  obtain ⟨v0, v1, v2, rfl⟩ : ∃ v0 v1 v2, vs = #[v0, v1, v2] := by
    match vs, hlen with
    | ⟨[a, b, c]⟩, _ => exact ⟨a, b, c, rfl⟩
  have a0 := hargs 0 _ v0 rfl rfl
  have a1 := hargs 1 _ v1 rfl rfl
  have a2 := hargs 2 _ v2 rfl rfl
  cases a1 with
  | d _ _ a1 =>
  cases a1
  cases a2 with
  | d _ _ a2 =>
  cases a2
  cases a0 with
  | row _ _ _ Nn c A hρ hn hc =>
    have hb := hinv.blk 0 0 _ rfl _ hρ
    obtain ⟨_, _, flat, hown, hrd⟩ := hb
    change m.w.ownsRow 0 (ρ.t 23) 1 (.slice A Nn c) xs.length flat at hown
    change ∀ (i : Nat) x (j : Nat) y u, xs[i]? = some x → x[j]? = some y → flat[i * 1 + j]? = some u → RD m.w m.ok y u at hrd
    rcases hown.2 with ⟨b, b'⟩ | ⟨g, cap, cur, b1, _, hg, b2, b3, b4, b5⟩
    · omega
    cases b1
    have hfl : flat.length = xs.length := by have := hown.1; omega
    have hflat : ∀ (j : Nat) u, flat[j]? = some u → ∃ y, xs[j]? = some [y] ∧ RD m.w m.ok y u := fun j u hu => by
      have hj : j < xs.length := by have := (List.getElem?_eq_some_iff.1 hu).1; omega
      obtain ⟨x, hxj⟩ : ∃ x, xs[j]? = some x := ⟨_, List.getElem?_eq_getElem hj⟩
      have hl := hx x (List.mem_of_getElem? hxj)
      match x, hl with
      | [y], _ => exact ⟨y, hxj, hrd j [y] 0 y u hxj rfl (by rw [Nat.mul_one, Nat.add_zero]; exact hu)⟩
    obtain ⟨fs, hfs⟩ : ∃ fs : List OneV, fs.map (·.1) = flat := by
      refine ⟨flat.pmap (fun v h => ⟨v, h⟩) (fun v hv => ?_), ?_⟩
      · obtain ⟨k, hk⟩ := List.getElem?_of_mem hv
        obtain ⟨y, _, h⟩ := hflat k v hk
        exact h.one
      · rw [List.map_pmap]; simp
    have hfsl : fs.length = xs.length := by rw [← hfl, ← hfs, List.length_map]
    refine (del_own L v23 i0 hi0 hz1 g xs.length c i j cur fs m.w hg hfsl b2 b3 (by omega) (by rw [hfs]; rw [← b5, Nat.mul_one]) hij hj).mono ?_
    rintro e w' ⟨rfl, hown', hgr⟩
    have hall : ∀ x ∈ xs.take i ++ xs.drop j ++ List.replicate (j - i) [DV.sl []], x.length = 1 := fun x hxm => by
      simp only [List.mem_append, List.mem_replicate] at hxm
      rcases hxm with (h | h) | ⟨_, h⟩
      · exact hx x (List.mem_of_mem_take h)
      · exact hx x (List.mem_of_mem_drop h)
      · rw [h]; rfl
    have hl' : (xs.take i ++ xs.drop j ++ List.replicate (j - i) [DV.sl []]).length = xs.length := by simp; omega
    have hti : (xs.take i).length = i := by rw [List.length_take]; omega
    have hfi : (fs.take i).length = i := by rw [List.length_take]; omega
    obtain ⟨m', e1, e2, e3, e4, e5⟩ := give_row (xs' := xs.take i ++ xs.drop j ++ List.replicate (j - i) [.sl []]) (v' := .slice (some ⟨g, 0, none⟩) xs.length c) hinv hρ hfree hall (by rw [hl']; exact hown') hgr (.inl rfl) (fun k x t z u' hk ht hu => by
        have hxl := hall x (List.mem_of_getElem? hk)
        obtain rfl : t = 0 := by have := (List.getElem?_eq_some_iff.1 ht).1; omega
        rw [Nat.mul_one, Nat.add_zero, List.getElem?_map] at hu
        obtain ⟨f, hf, rfl⟩ := Option.map_eq_some_iff.1 hu
        have fl : ∀ (q : Nat) (f : OneV), fs[q]? = some f → flat[q]? = some f.1 := fun q f h => by rw [← hfs, List.getElem?_map, h]; rfl
        by_cases h1 : k < i
        · rw [List.append_assoc, List.getElem?_append_left (by omega), List.getElem?_take, if_pos h1] at hf hk
          obtain ⟨q, hq, hr⟩ := hflat k _ (fl k f hf)
          rw [hq] at hk; cases hk; simp at ht; subst ht; exact hr
        · by_cases h2 : k < i + (xs.length - j)
          · rw [List.append_assoc, List.getElem?_append_right (by omega), List.getElem?_append_left (by rw [List.length_drop]; omega), List.getElem?_drop] at hf hk
            rw [hfi] at hf
            rw [hti] at hk
            obtain ⟨q, hq, hr⟩ := hflat _ _ (fl _ f hf)
            rw [hq] at hk; cases hk; simp at ht; subst ht; exact hr
          · rw [List.getElem?_append_right (by simp; omega)] at hf hk
            have h3 := List.mem_of_getElem? hf
            have h4 := List.mem_of_getElem? hk
            rw [List.mem_replicate] at h3 h4
            rw [h4.2] at ht
            simp at ht
            subst ht
            rw [h3.2]
            exact .sl 1 [] none 0 0 ⟨0, 0, none⟩ (fun _ => .bool true) rfl (Nat.le_refl _) (by decide) (fun h => absurd h (by decide)) (fun x h => by cases h) (fun i x j y h => by simp at h) (fun i x j y h => by simp at h))
    refine ⟨_, m', rfl, e1, e2, fun t ht => ?_, e4, .row 0 0 _ _ _ _ e5 (by omega) b2⟩
    obtain rfl : t = 0 := by simpa using ht
    exact e3
end Go.Proofs.Ve

/- Insert, Delete at the seat. -/
set_option maxRecDepth 100000
set_option linter.all false
namespace Go.Proofs.Ve
open Go Go.Proofs Go.Shelf Go.RowKit Go.Lib
def renIK : Ren := ⟨fun | 22 => 60 | 29 => 74 | 30 => 75 | n => n, fun | 9 => 30 | 24 => 22 | n => n, fun n => n⟩
def renIC : Ren := ⟨fun | 22 => 61 | 29 => 76 | 30 => 77 | n => n, fun | 9 => 58 | 24 => 23 | n => n, fun n => n⟩
theorem laysIK : InsL Try.prog renIK (.slice none 0 0) := {
  mixed := by kernel_rfl
  f22 := ⟨Try.f60.name, by decide, Try.func60.trans (congrArg some (by kernel_rfl))⟩
  ov := fun w vb voff m vc b o lb cb tA tB kA kB h1 h2 h3 h4 h5 => by
    show (callFunc 74 _).run _ w = _
    rw [run_callFunc_extern Try.func74 (by kernel_rfl) (by kernel_rfl) (by kernel_rfl) (e := Extern.SlicesOverlaps.overlaps #[22, 22] #[4]) (by kernel_rfl),
      overlaps_own w 22 4 30 Try.underlying22 1 Try.sizeOf30 ⟨vb, voff, none⟩ ⟨b, o, none⟩ m vc lb cb h1 tA tB kA kB h2 h3 h4 (h5 _) (h5 _)]
    rfl
  t0 := Try.underlying0
  a0 := Try.isAgg0
  z0 := Try.sizeOf0
  v0 := Try.zeroValue0
  t3 := Try.underlying3
  a3 := Try.isAgg3
  z3 := Try.sizeOf3
  v3 := Try.zeroValue3
  t4 := Try.underlying4
  a4 := Try.isAgg4
  z4 := Try.sizeOf4
  v4 := Try.zeroValue4
  a9 := Try.isAgg30
  z9 := Try.sizeOf30
  v9 := Try.zeroValue30
  t24 := Try.underlying22
  a24 := Try.isAgg22
  z24 := Try.sizeOf22
  v24 := Try.zeroValue22
  i9 := by kernel_rfl
  cz := rfl }
theorem laysIC : InsL Try.prog renIC (.slice none 0 0) := {
  mixed := by kernel_rfl
  f22 := ⟨Try.f61.name, by decide, Try.func61.trans (congrArg some (by kernel_rfl))⟩
  ov := fun w vb voff m vc b o lb cb tA tB kA kB h1 h2 h3 h4 h5 => by
    show (callFunc 76 _).run _ w = _
    rw [run_callFunc_extern Try.func76 (by kernel_rfl) (by kernel_rfl) (by kernel_rfl) (e := Extern.SlicesOverlaps.overlaps #[23, 23] #[4]) (by kernel_rfl),
      overlaps_own w 23 4 58 Try.underlying23 1 Try.sizeOf58 ⟨vb, voff, none⟩ ⟨b, o, none⟩ m vc lb cb h1 tA tB kA kB h2 h3 h4 (h5 _) (h5 _)]
    rfl
  t0 := Try.underlying0
  a0 := Try.isAgg0
  z0 := Try.sizeOf0
  v0 := Try.zeroValue0
  t3 := Try.underlying3
  a3 := Try.isAgg3
  z3 := Try.sizeOf3
  v3 := Try.zeroValue3
  t4 := Try.underlying4
  a4 := Try.isAgg4
  z4 := Try.sizeOf4
  v4 := Try.zeroValue4
  a9 := Try.isAgg58
  z9 := Try.sizeOf58
  v9 := Try.zeroValue58
  t24 := Try.underlying23
  a24 := Try.isAgg23
  z24 := Try.sizeOf23
  v24 := Try.zeroValue23
  i9 := by kernel_rfl
  cz := rfl }
def renDK : Ren := ⟨fun | 45 => 68 | n => n, fun | 22 => 22 | 23 => 30 | n => n, fun n => n⟩
theorem laysDK : SlLaysE.n45 Try.prog renDK := {
  mixed := by kernel_rfl
  f45 := ⟨Try.f68.name, by decide, Try.func68.trans (congrArg some (by kernel_rfl))⟩
  t0 := Try.underlying0
  a0 := Try.isAgg0
  z0 := Try.sizeOf0
  v0 := Try.zeroValue0
  t3 := Try.underlying3
  a3 := Try.isAgg3
  z3 := Try.sizeOf3
  v3 := Try.zeroValue3
  t4 := Try.underlying4
  a4 := Try.isAgg4
  z4 := Try.sizeOf4
  v4 := Try.zeroValue4
  t22 := Try.underlying22
  a22 := Try.isAgg22
  z22 := Try.sizeOf22
  v22 := Try.zeroValue22
  a23 := Try.isAgg30
  z23 := Try.sizeOf30 }
def renDC : Ren := ⟨fun | 45 => 69 | n => n, fun | 22 => 23 | 23 => 58 | n => n, fun n => n⟩
theorem laysDC : SlLaysE.n45 Try.prog renDC := {
  mixed := by kernel_rfl
  f45 := ⟨Try.f69.name, by decide, Try.func69.trans (congrArg some (by kernel_rfl))⟩
  t0 := Try.underlying0
  a0 := Try.isAgg0
  z0 := Try.sizeOf0
  v0 := Try.zeroValue0
  t3 := Try.underlying3
  a3 := Try.isAgg3
  z3 := Try.sizeOf3
  v3 := Try.zeroValue3
  t4 := Try.underlying4
  a4 := Try.isAgg4
  z4 := Try.sizeOf4
  v4 := Try.zeroValue4
  t22 := Try.underlying23
  a22 := Try.isAgg23
  z22 := Try.sizeOf23
  v22 := Try.zeroValue23
  a23 := Try.isAgg58
  z23 := Try.sizeOf58 }
theorem d_insK (xs : List (List DV)) (hx : ∀ x ∈ xs, x.length = 1) (i : Nat) (hi : i ≤ xs.length) (y : DV) (hb : xs.length < 1000000) (H : List (List Blk)) :
    CallEqG X H 60 [⟨30, 1, xs⟩] [.row 0 0 xs.length, .d (.int .i64 i), .d (.sl [[y]])] [none] (.row 0 0 (xs.length + 1)) [⟨30, 1, xs.take i ++ [[y]] ++ xs.drop i⟩] :=
  ins_eq (ρ := renIK) laysIK xs hx i hi y hb H
theorem d_insC (xs : List (List DV)) (hx : ∀ x ∈ xs, x.length = 1) (i : Nat) (hi : i ≤ xs.length) (y : DV) (hb : xs.length < 1000000) (H : List (List Blk)) :
    CallEqG X H 61 [⟨58, 1, xs⟩] [.row 0 0 xs.length, .d (.int .i64 i), .d (.sl [[y]])] [none] (.row 0 0 (xs.length + 1)) [⟨58, 1, xs.take i ++ [[y]] ++ xs.drop i⟩] :=
  ins_eq (ρ := renIC) laysIC xs hx i hi y hb H
theorem one_size {P : Program} {t : TypeId} {z : Value} {b : Nat} (h : (P.info? t).map (fun i => (i.zero, i.size, i.bytes)) = some (some z, 1, b)) : ∃ i0, P.info? t = some i0 ∧ i0.size = 1 := by
  obtain ⟨i0, h1, _, h2, _⟩ := info_parts h
  exact ⟨i0, h1, h2⟩
theorem d_delK (xs : List (List DV)) (hx : ∀ x ∈ xs, x.length = 1) (i j : Nat) (hij : i ≤ j) (hj : j ≤ xs.length) (h0 : 0 < xs.length) (H : List (List Blk)) :
    CallEqG X H 68 [⟨30, 1, xs⟩] [.row 0 0 xs.length, .d (.int .i64 i), .d (.int .i64 j)] [none] (.row 0 0 (xs.length - (j - i))) [⟨30, 1, xs.take i ++ xs.drop j ++ List.replicate (j - i) [.sl []]⟩] := by
  obtain ⟨i0, h1, h2⟩ := one_size (P := X.P) (t := 30) laysIK.i9
  exact del_eq (ρ := renDK) laysDK Try.zeroValue30 i0 h1 h2 xs hx i j hij hj h0 H
theorem d_delC (xs : List (List DV)) (hx : ∀ x ∈ xs, x.length = 1) (i j : Nat) (hij : i ≤ j) (hj : j ≤ xs.length) (h0 : 0 < xs.length) (H : List (List Blk)) :
    CallEqG X H 69 [⟨58, 1, xs⟩] [.row 0 0 xs.length, .d (.int .i64 i), .d (.int .i64 j)] [none] (.row 0 0 (xs.length - (j - i))) [⟨58, 1, xs.take i ++ xs.drop j ++ List.replicate (j - i) [.sl []]⟩] := by
  obtain ⟨i0, h1, h2⟩ := one_size (P := X.P) (t := 58) laysIC.i9
  exact del_eq (ρ := renDC) laysDC Try.zeroValue58 i0 h1 h2 xs hx i j hij hj h0 H
end Go.Proofs.Ve

/- A leaf in memory of its own. -/
set_option maxRecDepth 100000
set_option maxHeartbeats 8000000
set_option linter.all false
namespace Go.Proofs.Ve
open Go
def rowC (l : List (List Ver)) : List (List DV) := l.map fun c => [encVs c]
theorem rowK_one (l : List (List UInt8)) : ∀ x ∈ rowK l, x.length = 1 := fun x hx => by unfold rowK at hx; simp only [List.mem_map] at hx; obtain ⟨_, _, rfl⟩ := hx; rfl
theorem rowC_one (l : List (List Ver)) : ∀ x ∈ rowC l, x.length = 1 := fun x hx => by unfold rowC at hx; simp only [List.mem_map] at hx; obtain ⟨_, _, rfl⟩ := hx; rfl
theorem set_same {α β : Type} {f : α → β} {l : List α} {i : Nat} {x : α} (h : l[i]? = some x) : (l.map f).set i (f x) = l.map f := by
  refine List.ext_getElem? fun j => ?_
  rw [List.getElem?_set]
  have hi := (List.getElem?_eq_some_iff.1 h).1
  split
  · rename_i e; subst e
    rw [if_pos (by rw [List.length_map]; omega), List.getElem?_map, h]; rfl
  · rfl
theorem d_ownL (ks : List (List UInt8)) (cs : List (List Ver)) (h1 : ks.length < 100000) (h2 : cs.length < 100000) (h3 : ∀ x ∈ ks, x.length ≤ 1000000) (h4 : ∀ y ∈ cs, y.length < 100000 ∧ ∀ v ∈ y, v.val.length ≤ 1000000) (H : List (List Blk)) :
    CallEq X H 44 [pNode (.mk ks cs [])] (.agg [.row 0 0 ks.length, .row 0 1 cs.length, .row 0 2 0]) [⟨30, 1, rowK ks⟩, ⟨58, 1, rowC cs⟩, ⟨26, 3, []⟩] := by
  have l1 : (rowK ks).length = ks.length := List.length_map ..
  have l2 : (rowC cs).length = cs.length := List.length_map ..
  refine callEq_of_body X_ok rfl Try.func44 rfl ?_
  conv => whnf
  refine ⟨_, _, d_cloneK (rowK ks) (rowK_one ks) (by omega) _, True.intro, ?_⟩
  conv => whnf
  refine ⟨_, _, d_cloneC (rowC cs) (rowC_one cs) (by omega) _, True.intro, ?_⟩
  conv => whnf
  refine ⟨_, _, d_cloneN [] (fun x h => by cases h) (by decide) _, True.intro, ?_⟩
  conv => whnf
  refine loopV_of (fun i : Nat => ⟨[.any, .ptr 0 0 0, .ptr 0 1 0, .any, .any, .any, .any, .any, .any, .any, .any, .any, .any, .any, .any, .any, .any, .any, .any, .any, .any, .any, .row 0 2 (rowK ks).length, .d (.int .i64 (rowK ks).length), .d (.int .i64 i), .any, .any, .any, .any, .any, .any, .any, .any, .any, .any, .any, .any, .any, .any, .any, .any, .any, .any, .any, .any, .any, .any, .any, .any, .any, .any, .any, .any, .any, .any, .any, .any, .any, .any, .any, .any, .any, .any, .any, .any, .any, .any], [.box [.row 0 2 (rowK ks).length, .row 0 3 (rowC cs).length, .row 0 4 0], .box [.any, .any, .any], .row 30 1 (rowK ks), .row 58 1 (rowC cs), .row 26 3 []]⟩)
    (fun i => i ≤ ks.length) (fun i => ks.length - i) 0 [0, 1, 2, 3, 4] (Nat.zero_le _) ?_ ?_
  · refine And.intro rfl (And.intro ?_ ?_)
    all_goals (repeat' (first | exact True.intro | exact rfl | refine And.intro ?_ ?_))
  · intro i hi
    conv => whnf
    refine And.intro (fun q => ?_) (fun q => ?_)
    · conv => whnf
      have hi' : i < ks.length := by rw [l1] at q; simpa using q
      obtain ⟨k, hk⟩ : ∃ x, ks[i]? = some x := ⟨_, List.getElem?_eq_getElem hi'⟩
      have hkl := h3 k (List.mem_of_getElem? hk)
      have hg : (rowK ks)[((i : Nat) : Int).toNat]? = some [encB k] := by unfold rowK; rw [Int.toNat_natCast, List.getElem?_map, hk]; rfl
      have hset : (rowK ks).set ((i : Nat) : Int).toNat [encB k] = rowK ks := by rw [Int.toNat_natCast]; exact set_same (f := fun k => [encB k]) hk
      refine ⟨by omega, by rw [l1]; omega, ?_⟩
      conv => whnf
      refine ⟨[encB k], hg, ?_⟩
      conv => whnf
      refine ⟨_, _, c103 k (by omega) _, True.intro, ?_⟩
      conv => whnf
      refine ⟨by omega, by rw [l1]; omega, ?_⟩
      conv => whnf
      refine ⟨[encB k], hg, ?_⟩
      conv => whnf
      intro z hz
      conv => whnf
      rw [wrap_small (by omega) (by omega)] at hz
      subst hz
      refine ⟨i + 1, [0, 1, 2, 3, 4], by omega, by omega, And.intro rfl (And.intro ?_ ?_)⟩
      all_goals (repeat' (first | exact True.intro | exact rfl | refine And.intro ?_ ?_))
      exact hset
    · conv => whnf
      refine loopV_of (fun i : Nat => ⟨[.any, .ptr 0 0 0, .ptr 0 1 0, .any, .any, .any, .any, .any, .any, .any, .any, .any, .any, .any, .any, .any, .any, .any, .any, .any, .any, .any, .any, .any, .any, .any, .any, .any, .any, .any, .any, .any, .any, .any, .any, .any, .any, .row 0 3 (rowC cs).length, .d (.int .i64 (rowC cs).length), .d (.int .i64 i), .any, .any, .any, .any, .any, .any, .any, .any, .any, .any, .any, .any, .any, .any, .any, .any, .any, .any, .any, .any, .any, .any, .any, .any, .any, .any, .any], [.box [.row 0 2 (rowK ks).length, .row 0 3 (rowC cs).length, .row 0 4 0], .box [.any, .any, .any], .row 30 1 (rowK ks), .row 58 1 (rowC cs), .row 26 3 []]⟩)
        (fun i => i ≤ cs.length) (fun i => cs.length - i) 0 [0, 1, 2, 3, 4] (Nat.zero_le _) ?_ ?_
      · refine And.intro rfl (And.intro ?_ ?_)
        all_goals (repeat' (first | exact True.intro | exact rfl | refine And.intro ?_ ?_))
      · clear q hi
        clear i
        intro i hi
        conv => whnf
        refine And.intro (fun q => ?_) (fun q => ?_)
        · conv => whnf
          have hi' : i < cs.length := by rw [l2] at q; simpa using q
          obtain ⟨c, hc⟩ : ∃ x, cs[i]? = some x := ⟨_, List.getElem?_eq_getElem hi'⟩
          have hcl := h4 c (List.mem_of_getElem? hc)
          have hg : (rowC cs)[((i : Nat) : Int).toNat]? = some [encVs c] := by unfold rowC; rw [Int.toNat_natCast, List.getElem?_map, hc]; rfl
          have hset : (rowC cs).set ((i : Nat) : Int).toNat [encVs c] = rowC cs := by rw [Int.toNat_natCast]; exact set_same (f := fun c => [encVs c]) hc
          refine ⟨by omega, by rw [l2]; omega, ?_⟩
          conv => whnf
          refine ⟨[encVs c], hg, ?_⟩
          conv => whnf
          refine ⟨_, _, d_vers c (by omega) hcl.2 _, True.intro, ?_⟩
          conv => whnf
          refine ⟨by omega, by rw [l2]; omega, ?_⟩
          conv => whnf
          refine ⟨[encVs c], hg, ?_⟩
          conv => whnf
          intro z hz
          conv => whnf
          rw [wrap_small (by omega) (by omega)] at hz
          subst hz
          refine ⟨i + 1, [0, 1, 2, 3, 4], by omega, by omega, And.intro rfl (And.intro ?_ ?_)⟩
          all_goals (repeat' (first | exact True.intro | exact rfl | refine And.intro ?_ ?_))
          exact hset
        · conv => whnf
          refine loopV_of (fun i : Nat => ⟨[.any, .ptr 0 0 0, .ptr 0 1 0, .any, .any, .any, .any, .any, .any, .any, .any, .any, .any, .any, .any, .any, .any, .any, .any, .any, .any, .any, .any, .any, .any, .any, .any, .any, .any, .any, .any, .any, .any, .any, .any, .any, .any, .any, .any, .any, .any, .any, .any, .any, .any, .any, .any, .any, .any, .any, .any, .any, .row 0 4 0, .d (.int .i64 0), .d (.int .i64 0), .any, .any, .any, .any, .any, .any, .any, .any, .any, .any, .any, .any], [.box [.row 0 2 (rowK ks).length, .row 0 3 (rowC cs).length, .row 0 4 0], .box [.any, .any, .any], .row 30 1 (rowK ks), .row 58 1 (rowC cs), .row 26 3 []]⟩)
            (fun i => True) (fun i => i) 0 [0, 1, 2, 3, 4] trivial ?_ ?_
          · refine And.intro rfl (And.intro ?_ ?_)
            all_goals (repeat' (first | exact True.intro | exact rfl | refine And.intro ?_ ?_))
          · intro i _
            conv => whnf
            refine And.intro (fun q => ?_) (fun q => ?_)
            · exact absurd q (by decide)
            · conv => whnf
              refine ⟨[2, 3, 4], rfl, ?_⟩
              (repeat' (first | exact True.intro | exact rfl | refine And.intro ?_ ?_))
              · show PV.row 0 2 _ = PV.row 0 2 _
                rw [l1]
              · show PV.row 0 3 _ = PV.row 0 3 _
                rw [l2]
end Go.Proofs.Ve

/- A key into a leaf. -/
set_option maxRecDepth 100000
set_option maxHeartbeats 8000000
set_option linter.all false
namespace Go.Proofs.Ve
open Go
def mo50 : List (Nat × Tr) := [(6, (.alt 0 (.alt 2 (.alt 3 (.alt 6 (.alt 8 (.alt 9 (.alt 1 (.alt 4 (.alt 5 (.alt 7 (.alt 12 (.alt 10 (.alt 11 (.alt 13 (.alt 14 (.alt 15 .fin .none) .none) .none) .none) .none) .none) (.alt 10 (.alt 7 (.alt 12 (.alt 11 (.alt 13 (.alt 14 (.alt 15 .fin .none) .none) .none) .none) .none) .none) .none)) (.alt 7 (.alt 5 (.alt 12 (.alt 10 (.alt 11 (.alt 13 (.alt 14 (.alt 15 .fin .none) .none) .none) .none) .none) .none) (.alt 10 (.alt 5 (.alt 12 (.alt 11 (.alt 13 (.alt 14 (.alt 15 .fin .none) .none) .none) .none) .none) .none) .none)) (.alt 10 (.alt 5 (.alt 7 (.alt 12 (.alt 11 (.alt 13 (.alt 14 (.alt 15 .fin .none) .none) .none) .none) .none) .none) (.alt 7 (.alt 5 (.alt 12 (.alt 11 (.alt 13 (.alt 14 (.alt 15 .fin .none) .none) .none) .none) .none) .none) .none)) .none))) (.alt 7 (.alt 4 (.alt 5 (.alt 12 (.alt 10 (.alt 11 (.alt 13 (.alt 14 (.alt 15 .fin .none) .none) .none) .none) .none) .none) (.alt 10 (.alt 5 (.alt 12 (.alt 11 (.alt 13 (.alt 14 (.alt 15 .fin .none) .none) .none) .none) .none) .none) .none)) (.alt 10 (.alt 4 (.alt 5 (.alt 12 (.alt 11 (.alt 13 (.alt 14 (.alt 15 .fin .none) .none) .none) .none) .none) .none) .none) .none)) (.alt 10 (.alt 4 (.alt 5 (.alt 7 (.alt 12 (.alt 11 (.alt 13 (.alt 14 (.alt 15 .fin .none) .none) .none) .none) .none) .none) (.alt 7 (.alt 5 (.alt 12 (.alt 11 (.alt 13 (.alt 14 (.alt 15 .fin .none) .none) .none) .none) .none) .none) .none)) (.alt 7 (.alt 4 (.alt 5 (.alt 12 (.alt 11 (.alt 13 (.alt 14 (.alt 15 .fin .none) .none) .none) .none) .none) .none) .none) .none)) .none))) (.alt 4 (.alt 1 (.alt 5 (.alt 7 (.alt 12 (.alt 10 (.alt 11 (.alt 13 (.alt 14 (.alt 15 .fin .none) .none) .none) .none) .none) .none) (.alt 10 (.alt 7 (.alt 12 (.alt 11 (.alt 13 (.alt 14 (.alt 15 .fin .none) .none) .none) .none) .none) .none) .none)) (.alt 7 (.alt 5 (.alt 12 (.alt 10 (.alt 11 (.alt 13 (.alt 14 (.alt 15 .fin .none) .none) .none) .none) .none) .none) (.alt 10 (.alt 5 (.alt 12 (.alt 11 (.alt 13 (.alt 14 (.alt 15 .fin .none) .none) .none) .none) .none) .none) .none)) (.alt 10 (.alt 5 (.alt 7 (.alt 12 (.alt 11 (.alt 13 (.alt 14 (.alt 15 .fin .none) .none) .none) .none) .none) .none) (.alt 7 (.alt 5 (.alt 12 (.alt 11 (.alt 13 (.alt 14 (.alt 15 .fin .none) .none) .none) .none) .none) .none) .none)) .none))) (.alt 7 (.alt 1 (.alt 5 (.alt 12 (.alt 10 (.alt 11 (.alt 13 (.alt 14 (.alt 15 .fin .none) .none) .none) .none) .none) .none) (.alt 10 (.alt 5 (.alt 12 (.alt 11 (.alt 13 (.alt 14 (.alt 15 .fin .none) .none) .none) .none) .none) .none) .none)) (.alt 10 (.alt 1 (.alt 5 (.alt 12 (.alt 11 (.alt 13 (.alt 14 (.alt 15 .fin .none) .none) .none) .none) .none) .none) .none) .none)) (.alt 10 (.alt 1 (.alt 5 (.alt 7 (.alt 12 (.alt 11 (.alt 13 (.alt 14 (.alt 15 .fin .none) .none) .none) .none) .none) .none) (.alt 7 (.alt 5 (.alt 12 (.alt 11 (.alt 13 (.alt 14 (.alt 15 .fin .none) .none) .none) .none) .none) .none) .none)) (.alt 7 (.alt 1 (.alt 5 (.alt 12 (.alt 11 (.alt 13 (.alt 14 (.alt 15 .fin .none) .none) .none) .none) .none) .none) .none) .none)) .none))) (.alt 7 (.alt 1 (.alt 4 (.alt 5 (.alt 12 (.alt 10 (.alt 11 (.alt 13 (.alt 14 (.alt 15 .fin .none) .none) .none) .none) .none) .none) (.alt 10 (.alt 5 (.alt 12 (.alt 11 (.alt 13 (.alt 14 (.alt 15 .fin .none) .none) .none) .none) .none) .none) .none)) (.alt 10 (.alt 4 (.alt 5 (.alt 12 (.alt 11 (.alt 13 (.alt 14 (.alt 15 .fin .none) .none) .none) .none) .none) .none) .none) .none)) (.alt 4 (.alt 1 (.alt 5 (.alt 12 (.alt 10 (.alt 11 (.alt 13 (.alt 14 (.alt 15 .fin .none) .none) .none) .none) .none) .none) (.alt 10 (.alt 5 (.alt 12 (.alt 11 (.alt 13 (.alt 14 (.alt 15 .fin .none) .none) .none) .none) .none) .none) .none)) (.alt 10 (.alt 1 (.alt 5 (.alt 12 (.alt 11 (.alt 13 (.alt 14 (.alt 15 .fin .none) .none) .none) .none) .none) .none) .none) .none)) (.alt 10 (.alt 1 (.alt 4 (.alt 5 (.alt 12 (.alt 11 (.alt 13 (.alt 14 (.alt 15 .fin .none) .none) .none) .none) .none) .none) .none) (.alt 4 (.alt 1 (.alt 5 (.alt 12 (.alt 11 (.alt 13 (.alt 14 (.alt 15 .fin .none) .none) .none) .none) .none) .none) .none) .none)) .none))) (.alt 10 (.alt 1 (.alt 4 (.alt 5 (.alt 7 (.alt 12 (.alt 11 (.alt 13 (.alt 14 (.alt 15 .fin .none) .none) .none) .none) .none) .none) (.alt 7 (.alt 5 (.alt 12 (.alt 11 (.alt 13 (.alt 14 (.alt 15 .fin .none) .none) .none) .none) .none) .none) .none)) (.alt 7 (.alt 4 (.alt 5 (.alt 12 (.alt 11 (.alt 13 (.alt 14 (.alt 15 .fin .none) .none) .none) .none) .none) .none) .none) .none)) (.alt 4 (.alt 1 (.alt 5 (.alt 7 (.alt 12 (.alt 11 (.alt 13 (.alt 14 (.alt 15 .fin .none) .none) .none) .none) .none) .none) (.alt 7 (.alt 5 (.alt 12 (.alt 11 (.alt 13 (.alt 14 (.alt 15 .fin .none) .none) .none) .none) .none) .none) .none)) (.alt 7 (.alt 1 (.alt 5 (.alt 12 (.alt 11 (.alt 13 (.alt 14 (.alt 15 .fin .none) .none) .none) .none) .none) .none) .none) .none)) (.alt 7 (.alt 1 (.alt 4 (.alt 5 (.alt 12 (.alt 11 (.alt 13 (.alt 14 (.alt 15 .fin .none) .none) .none) .none) .none) .none) .none) (.alt 4 (.alt 1 (.alt 5 (.alt 12 (.alt 11 (.alt 13 (.alt 14 (.alt 15 .fin .none) .none) .none) .none) .none) .none) .none) .none)) .none))) .none)))) .none) .none) .none) .none) .none) .none)), (11, (.alt 0 (.alt 2 (.alt 3 (.alt 5 (.alt 8 (.alt 9 (.alt 1 (.alt 4 (.alt 6 (.alt 7 (.alt 10 (.alt 11 (.alt 12 .fin .none) .none) .none) .none) .none) .none) (.alt 4 (.alt 1 (.alt 6 (.alt 7 (.alt 10 (.alt 11 (.alt 12 .fin .none) .none) .none) .none) .none) (.alt 6 (.alt 1 (.alt 7 (.alt 10 (.alt 11 (.alt 12 .fin .none) .none) .none) .none) (.alt 7 (.alt 1 (.alt 10 (.alt 11 (.alt 12 .fin .none) .none) .none) (.alt 10 (.alt 1 (.alt 11 (.alt 12 .fin .none) .none) .none) .none)) .none)) .none)) .none)) .none) .none) .none) .none) .none) .none))]
theorem d_putL (ks : List (List UInt8)) (cs : List (List Ver)) (k : List UInt8) (l : List Ver) (h1 : ks.length < 100000) (h2 : cs.length = ks.length) (hno : bsIs ks k = false) (H : List (List Blk)) :
    CallEqG X H 46 [⟨30, 1, rowK ks⟩, ⟨58, 1, rowC cs⟩, ⟨26, 3, []⟩] [.agg [.row 0 0 ks.length, .row 0 1 cs.length, .row 0 2 0], .d (encB k), .d (encVs l)] [none, none, none]
      (.agg [.row 0 0 (ks.length + 1), .row 0 1 (cs.length + 1), .row 0 2 0]) [⟨30, 1, (rowK ks).take (bs ks k) ++ [[encB k]] ++ (rowK ks).drop (bs ks k)⟩, ⟨58, 1, (rowC cs).take (bs ks k) ++ [[encVs l]] ++ (rowC cs).drop (bs ks k)⟩, ⟨26, 3, []⟩] := by
  have l1 : (rowK ks).length = ks.length := List.length_map ..
  have l2 : (rowC cs).length = cs.length := List.length_map ..
  have hp := fun H => d_place (.mk ks cs []) k (by show ks.length < 1000000; omega) H
  have hle : bs ks k ≤ ks.length := bs_le ks k
  have hlf := fun H => d_leaf (.mk ks cs []) H
  rw [show leafN (.mk ks cs []) = true from rfl] at hlf
  rw [show Node.keys (.mk ks cs []) = ks from rfl, hno] at hp
  generalize bs ks k = i at hp hle ⊢
  have hik := fun H => d_insK (rowK ks) (rowK_one ks) i (by omega) (encB k) (by omega) H
  have hic := fun H => d_insC (rowC cs) (rowC_one cs) i (by omega) (encVs l) (by omega) H
  have hp : ∀ H, CallEq X H 37 [.agg [.d (.sl ((rowK ks).take ks.length)), .d (.sl ((rowC cs).take cs.length)), .d (.sl (List.take 0 []))], .d (encB k)] (.tuple [.d (.int .i64 i), .d (.bool false)]) [] := fun H => by
    rw [List.take_of_length_le (Nat.le_of_eq l1), List.take_of_length_le (Nat.le_of_eq l2)]; exact hp H
  have hlf : ∀ H, CallEq X H 39 [.agg [.d (.sl ((rowK ks).take ks.length)), .d (.sl ((rowC cs).take cs.length)), .d (.sl (List.take 0 []))]] (.d (.bool true)) [] := fun H => by
    rw [List.take_of_length_le (Nat.le_of_eq l1), List.take_of_length_le (Nat.le_of_eq l2)]; exact hlf H
  rw [l1] at hik
  rw [l2] at hic
  generalize rowK ks = xs at l1 hp hlf hik ⊢
  generalize rowC cs = ys at l2 hp hlf hic ⊢
  generalize ks.length = n at l1 h1 h2 hp hle hlf hik ⊢
  generalize cs.length = m at l2 h2 hp hlf hic ⊢
  refine callEqG_of_bodyM X_ok (mo := mo50) (by kernel_rfl) Try.func46 rfl ?_
  conv => whnf
  refine ⟨_, _, hp _, And.intro rfl flat_nil, ?_⟩
  conv => whnf
  refine And.intro (fun q => ?_) (fun q => ?_)
  · exact absurd q (by decide)
  conv => whnf
  refine ⟨_, _, hlf _, And.intro rfl flat_nil, ?_⟩
  conv => whnf
  refine And.intro (fun q => ?_) (fun q => ?_)
  rotate_left
  · exact absurd q (by decide)
  conv => whnf
  repeat' (first
    | (refine ⟨_, _, _, hik _, ?_⟩; conv => whnf)
    | (refine ⟨_, _, _, hic _, ?_⟩; conv => whnf)
    | (refine And.intro ?_ ?_ <;> (conv => whnf))
    | (refine ⟨[5, 6, 2], rfl, ?_⟩
       (repeat' (first | exact True.intro | exact rfl | refine And.intro ?_ ?_))
       done)
    | fail)
end Go.Proofs.Ve

/- A key out of a leaf. -/
set_option maxRecDepth 100000
set_option maxHeartbeats 8000000
set_option linter.all false
namespace Go.Proofs.Ve
open Go
def mo51 : List (Nat × Tr) := [(4, (.alt 0 (.alt 2 (.alt 3 (.alt 4 (.alt 6 (.alt 8 (.alt 9 (.alt 10 (.alt 1 (.alt 5 (.alt 7 (.alt 12 (.alt 11 (.alt 13 (.alt 14 (.alt 15 .fin .none) .none) .none) .none) .none) .none) (.alt 7 (.alt 5 (.alt 12 (.alt 11 (.alt 13 (.alt 14 (.alt 15 .fin .none) .none) .none) .none) .none) .none) .none)) (.alt 7 (.alt 1 (.alt 5 (.alt 12 (.alt 11 (.alt 13 (.alt 14 (.alt 15 .fin .none) .none) .none) .none) .none) .none) .none) .none)) .none) .none) .none) .none) .none) .none) .none) .none)), (8, (.alt 0 (.alt 2 (.alt 3 (.alt 5 (.alt 6 (.alt 8 (.alt 9 (.alt 1 (.alt 4 (.alt 7 (.alt 10 (.alt 11 (.alt 12 (.alt 13 (.alt 14 (.alt 15 (.alt 16 (.alt 17 (.alt 18 (.alt 19 .fin .none) .none) .none) .none) .none) .none) .none) .none) .none) .none) .none) (.alt 7 (.alt 4 (.alt 10 (.alt 11 (.alt 12 (.alt 13 (.alt 14 (.alt 15 (.alt 16 (.alt 17 (.alt 18 (.alt 19 .fin .none) .none) .none) .none) .none) .none) .none) .none) .none) .none) (.alt 10 (.alt 4 (.alt 11 (.alt 12 (.alt 13 (.alt 14 (.alt 15 (.alt 16 (.alt 17 (.alt 18 (.alt 19 .fin .none) .none) .none) .none) .none) .none) .none) .none) .none) (.alt 11 (.alt 4 (.alt 12 (.alt 13 (.alt 14 (.alt 15 (.alt 16 (.alt 17 (.alt 18 (.alt 19 .fin .none) .none) .none) .none) .none) .none) .none) .none) (.alt 12 (.alt 13 (.alt 14 (.alt 15 (.alt 4 (.alt 16 (.alt 17 (.alt 18 (.alt 19 .fin .none) .none) .none) .none) (.alt 16 (.alt 4 (.alt 17 (.alt 18 (.alt 19 .fin .none) .none) .none) (.alt 17 (.alt 4 (.alt 18 (.alt 19 .fin .none) .none) .none) .none)) .none)) .none) .none) .none) .none)) .none)) .none)) .none)) (.alt 4 (.alt 1 (.alt 7 (.alt 10 (.alt 11 (.alt 12 (.alt 13 (.alt 14 (.alt 15 (.alt 16 (.alt 17 (.alt 18 (.alt 19 .fin .none) .none) .none) .none) .none) .none) .none) .none) .none) .none) .none) (.alt 7 (.alt 1 (.alt 10 (.alt 11 (.alt 12 (.alt 13 (.alt 14 (.alt 15 (.alt 16 (.alt 17 (.alt 18 (.alt 19 .fin .none) .none) .none) .none) .none) .none) .none) .none) .none) .none) (.alt 10 (.alt 1 (.alt 11 (.alt 12 (.alt 13 (.alt 14 (.alt 15 (.alt 16 (.alt 17 (.alt 18 (.alt 19 .fin .none) .none) .none) .none) .none) .none) .none) .none) .none) (.alt 11 (.alt 1 (.alt 12 (.alt 13 (.alt 14 (.alt 15 (.alt 16 (.alt 17 (.alt 18 (.alt 19 .fin .none) .none) .none) .none) .none) .none) .none) .none) (.alt 12 (.alt 13 (.alt 14 (.alt 15 (.alt 1 (.alt 16 (.alt 17 (.alt 18 (.alt 19 .fin .none) .none) .none) .none) .none) .none) .none) .none) .none)) .none)) .none)) .none)) (.alt 7 (.alt 1 (.alt 4 (.alt 10 (.alt 11 (.alt 12 (.alt 13 (.alt 14 (.alt 15 (.alt 16 (.alt 17 (.alt 18 (.alt 19 .fin .none) .none) .none) .none) .none) .none) .none) .none) .none) .none) (.alt 10 (.alt 4 (.alt 11 (.alt 12 (.alt 13 (.alt 14 (.alt 15 (.alt 16 (.alt 17 (.alt 18 (.alt 19 .fin .none) .none) .none) .none) .none) .none) .none) .none) .none) (.alt 11 (.alt 4 (.alt 12 (.alt 13 (.alt 14 (.alt 15 (.alt 16 (.alt 17 (.alt 18 (.alt 19 .fin .none) .none) .none) .none) .none) .none) .none) .none) (.alt 12 (.alt 13 (.alt 14 (.alt 15 (.alt 4 (.alt 16 (.alt 17 (.alt 18 (.alt 19 .fin .none) .none) .none) .none) (.alt 16 (.alt 4 (.alt 17 (.alt 18 (.alt 19 .fin .none) .none) .none) (.alt 17 (.alt 4 (.alt 18 (.alt 19 .fin .none) .none) .none) .none)) .none)) .none) .none) .none) .none)) .none)) .none)) (.alt 4 (.alt 1 (.alt 10 (.alt 11 (.alt 12 (.alt 13 (.alt 14 (.alt 15 (.alt 16 (.alt 17 (.alt 18 (.alt 19 .fin .none) .none) .none) .none) .none) .none) .none) .none) .none) .none) (.alt 10 (.alt 1 (.alt 11 (.alt 12 (.alt 13 (.alt 14 (.alt 15 (.alt 16 (.alt 17 (.alt 18 (.alt 19 .fin .none) .none) .none) .none) .none) .none) .none) .none) .none) (.alt 11 (.alt 1 (.alt 12 (.alt 13 (.alt 14 (.alt 15 (.alt 16 (.alt 17 (.alt 18 (.alt 19 .fin .none) .none) .none) .none) .none) .none) .none) .none) (.alt 12 (.alt 13 (.alt 14 (.alt 15 (.alt 1 (.alt 16 (.alt 17 (.alt 18 (.alt 19 .fin .none) .none) .none) .none) .none) .none) .none) .none) .none)) .none)) .none)) (.alt 10 (.alt 1 (.alt 4 (.alt 11 (.alt 12 (.alt 13 (.alt 14 (.alt 15 (.alt 16 (.alt 17 (.alt 18 (.alt 19 .fin .none) .none) .none) .none) .none) .none) .none) .none) .none) (.alt 11 (.alt 4 (.alt 12 (.alt 13 (.alt 14 (.alt 15 (.alt 16 (.alt 17 (.alt 18 (.alt 19 .fin .none) .none) .none) .none) .none) .none) .none) .none) (.alt 12 (.alt 13 (.alt 14 (.alt 15 (.alt 4 (.alt 16 (.alt 17 (.alt 18 (.alt 19 .fin .none) .none) .none) .none) (.alt 16 (.alt 4 (.alt 17 (.alt 18 (.alt 19 .fin .none) .none) .none) (.alt 17 (.alt 4 (.alt 18 (.alt 19 .fin .none) .none) .none) .none)) .none)) .none) .none) .none) .none)) .none)) (.alt 4 (.alt 1 (.alt 11 (.alt 12 (.alt 13 (.alt 14 (.alt 15 (.alt 16 (.alt 17 (.alt 18 (.alt 19 .fin .none) .none) .none) .none) .none) .none) .none) .none) .none) (.alt 11 (.alt 1 (.alt 12 (.alt 13 (.alt 14 (.alt 15 (.alt 16 (.alt 17 (.alt 18 (.alt 19 .fin .none) .none) .none) .none) .none) .none) .none) .none) (.alt 12 (.alt 13 (.alt 14 (.alt 15 (.alt 1 (.alt 16 (.alt 17 (.alt 18 (.alt 19 .fin .none) .none) .none) .none) .none) .none) .none) .none) .none)) .none)) (.alt 11 (.alt 1 (.alt 4 (.alt 12 (.alt 13 (.alt 14 (.alt 15 (.alt 16 (.alt 17 (.alt 18 (.alt 19 .fin .none) .none) .none) .none) .none) .none) .none) .none) (.alt 12 (.alt 13 (.alt 14 (.alt 15 (.alt 4 (.alt 16 (.alt 17 (.alt 18 (.alt 19 .fin .none) .none) .none) .none) (.alt 16 (.alt 4 (.alt 17 (.alt 18 (.alt 19 .fin .none) .none) .none) (.alt 17 (.alt 4 (.alt 18 (.alt 19 .fin .none) .none) .none) .none)) .none)) .none) .none) .none) .none)) (.alt 4 (.alt 1 (.alt 12 (.alt 13 (.alt 14 (.alt 15 (.alt 16 (.alt 17 (.alt 18 (.alt 19 .fin .none) .none) .none) .none) .none) .none) .none) .none) (.alt 12 (.alt 13 (.alt 14 (.alt 15 (.alt 1 (.alt 16 (.alt 17 (.alt 18 (.alt 19 .fin .none) .none) .none) .none) .none) .none) .none) .none) .none)) (.alt 12 (.alt 13 (.alt 14 (.alt 15 (.alt 1 (.alt 4 (.alt 16 (.alt 17 (.alt 18 (.alt 19 .fin .none) .none) .none) .none) (.alt 16 (.alt 4 (.alt 17 (.alt 18 (.alt 19 .fin .none) .none) .none) (.alt 17 (.alt 4 (.alt 18 (.alt 19 .fin .none) .none) .none) .none)) .none)) (.alt 4 (.alt 1 (.alt 16 (.alt 17 (.alt 18 (.alt 19 .fin .none) .none) .none) .none) .none) .none)) .none) .none) .none) .none))) .none))) .none))) .none))) .none) .none) .none) .none) .none) .none) .none)), (9, (.alt 0 (.alt 2 (.alt 3 (.alt 4 (.alt 6 (.alt 7 (.alt 10 (.alt 12 (.alt 1 (.alt 5 (.alt 8 (.alt 9 (.alt 11 (.alt 13 (.alt 14 (.alt 15 (.alt 16 (.alt 17 .fin .none) .none) .none) .none) .none) .none) (.alt 11 (.alt 9 (.alt 13 (.alt 14 (.alt 15 (.alt 16 (.alt 17 .fin .none) .none) .none) .none) .none) (.alt 13 (.alt 9 (.alt 14 (.alt 15 (.alt 16 (.alt 17 .fin .none) .none) .none) .none) (.alt 14 (.alt 9 (.alt 15 (.alt 16 (.alt 17 .fin .none) .none) .none) .none) .none)) .none)) .none)) (.alt 11 (.alt 8 (.alt 9 (.alt 13 (.alt 14 (.alt 15 (.alt 16 (.alt 17 .fin .none) .none) .none) .none) .none) (.alt 13 (.alt 9 (.alt 14 (.alt 15 (.alt 16 (.alt 17 .fin .none) .none) .none) .none) (.alt 14 (.alt 9 (.alt 15 (.alt 16 (.alt 17 .fin .none) .none) .none) .none) .none)) .none)) (.alt 13 (.alt 8 (.alt 9 (.alt 14 (.alt 15 (.alt 16 (.alt 17 .fin .none) .none) .none) .none) (.alt 14 (.alt 9 (.alt 15 (.alt 16 (.alt 17 .fin .none) .none) .none) .none) .none)) (.alt 14 (.alt 8 (.alt 9 (.alt 15 (.alt 16 (.alt 17 .fin .none) .none) .none) .none) .none) .none)) .none)) .none)) (.alt 11 (.alt 5 (.alt 8 (.alt 9 (.alt 13 (.alt 14 (.alt 15 (.alt 16 (.alt 17 .fin .none) .none) .none) .none) .none) (.alt 13 (.alt 9 (.alt 14 (.alt 15 (.alt 16 (.alt 17 .fin .none) .none) .none) .none) (.alt 14 (.alt 9 (.alt 15 (.alt 16 (.alt 17 .fin .none) .none) .none) .none) .none)) .none)) (.alt 13 (.alt 8 (.alt 9 (.alt 14 (.alt 15 (.alt 16 (.alt 17 .fin .none) .none) .none) .none) (.alt 14 (.alt 9 (.alt 15 (.alt 16 (.alt 17 .fin .none) .none) .none) .none) .none)) (.alt 14 (.alt 8 (.alt 9 (.alt 15 (.alt 16 (.alt 17 .fin .none) .none) .none) .none) .none) .none)) .none)) (.alt 13 (.alt 5 (.alt 8 (.alt 9 (.alt 14 (.alt 15 (.alt 16 (.alt 17 .fin .none) .none) .none) .none) (.alt 14 (.alt 9 (.alt 15 (.alt 16 (.alt 17 .fin .none) .none) .none) .none) .none)) (.alt 14 (.alt 8 (.alt 9 (.alt 15 (.alt 16 (.alt 17 .fin .none) .none) .none) .none) .none) .none)) (.alt 14 (.alt 5 (.alt 8 (.alt 9 (.alt 15 (.alt 16 (.alt 17 .fin .none) .none) .none) .none) .none) .none) .none)) .none)) .none)) (.alt 5 (.alt 1 (.alt 8 (.alt 9 (.alt 11 (.alt 13 (.alt 14 (.alt 15 (.alt 16 (.alt 17 .fin .none) .none) .none) .none) .none) .none) (.alt 11 (.alt 9 (.alt 13 (.alt 14 (.alt 15 (.alt 16 (.alt 17 .fin .none) .none) .none) .none) .none) (.alt 13 (.alt 9 (.alt 14 (.alt 15 (.alt 16 (.alt 17 .fin .none) .none) .none) .none) (.alt 14 (.alt 9 (.alt 15 (.alt 16 (.alt 17 .fin .none) .none) .none) .none) .none)) .none)) .none)) (.alt 11 (.alt 8 (.alt 9 (.alt 13 (.alt 14 (.alt 15 (.alt 16 (.alt 17 .fin .none) .none) .none) .none) .none) (.alt 13 (.alt 9 (.alt 14 (.alt 15 (.alt 16 (.alt 17 .fin .none) .none) .none) .none) (.alt 14 (.alt 9 (.alt 15 (.alt 16 (.alt 17 .fin .none) .none) .none) .none) .none)) .none)) (.alt 13 (.alt 8 (.alt 9 (.alt 14 (.alt 15 (.alt 16 (.alt 17 .fin .none) .none) .none) .none) (.alt 14 (.alt 9 (.alt 15 (.alt 16 (.alt 17 .fin .none) .none) .none) .none) .none)) (.alt 14 (.alt 8 (.alt 9 (.alt 15 (.alt 16 (.alt 17 .fin .none) .none) .none) .none) .none) .none)) .none)) .none)) (.alt 8 (.alt 1 (.alt 9 (.alt 11 (.alt 13 (.alt 14 (.alt 15 (.alt 16 (.alt 17 .fin .none) .none) .none) .none) .none) .none) (.alt 11 (.alt 9 (.alt 13 (.alt 14 (.alt 15 (.alt 16 (.alt 17 .fin .none) .none) .none) .none) .none) (.alt 13 (.alt 9 (.alt 14 (.alt 15 (.alt 16 (.alt 17 .fin .none) .none) .none) .none) (.alt 14 (.alt 9 (.alt 15 (.alt 16 (.alt 17 .fin .none) .none) .none) .none) .none)) .none)) .none)) (.alt 9 (.alt 1 (.alt 11 (.alt 13 (.alt 14 (.alt 15 (.alt 16 (.alt 17 .fin .none) .none) .none) .none) .none) .none) (.alt 11 (.alt 1 (.alt 13 (.alt 14 (.alt 15 (.alt 16 (.alt 17 .fin .none) .none) .none) .none) .none) (.alt 13 (.alt 1 (.alt 14 (.alt 15 (.alt 16 (.alt 17 .fin .none) .none) .none) .none) (.alt 14 (.alt 1 (.alt 15 (.alt 16 (.alt 17 .fin .none) .none) .none) (.alt 15 (.alt 1 (.alt 16 (.alt 17 .fin .none) .none) .none) .none)) .none)) .none)) .none)) (.alt 11 (.alt 1 (.alt 9 (.alt 13 (.alt 14 (.alt 15 (.alt 16 (.alt 17 .fin .none) .none) .none) .none) .none) (.alt 13 (.alt 9 (.alt 14 (.alt 15 (.alt 16 (.alt 17 .fin .none) .none) .none) .none) (.alt 14 (.alt 9 (.alt 15 (.alt 16 (.alt 17 .fin .none) .none) .none) .none) .none)) .none)) (.alt 9 (.alt 1 (.alt 13 (.alt 14 (.alt 15 (.alt 16 (.alt 17 .fin .none) .none) .none) .none) .none) (.alt 13 (.alt 1 (.alt 14 (.alt 15 (.alt 16 (.alt 17 .fin .none) .none) .none) .none) (.alt 14 (.alt 1 (.alt 15 (.alt 16 (.alt 17 .fin .none) .none) .none) (.alt 15 (.alt 1 (.alt 16 (.alt 17 .fin .none) .none) .none) .none)) .none)) .none)) (.alt 13 (.alt 1 (.alt 9 (.alt 14 (.alt 15 (.alt 16 (.alt 17 .fin .none) .none) .none) .none) (.alt 14 (.alt 9 (.alt 15 (.alt 16 (.alt 17 .fin .none) .none) .none) .none) .none)) (.alt 9 (.alt 1 (.alt 14 (.alt 15 (.alt 16 (.alt 17 .fin .none) .none) .none) .none) (.alt 14 (.alt 1 (.alt 15 (.alt 16 (.alt 17 .fin .none) .none) .none) (.alt 15 (.alt 1 (.alt 16 (.alt 17 .fin .none) .none) .none) .none)) .none)) (.alt 14 (.alt 1 (.alt 9 (.alt 15 (.alt 16 (.alt 17 .fin .none) .none) .none) .none) (.alt 9 (.alt 1 (.alt 15 (.alt 16 (.alt 17 .fin .none) .none) .none) (.alt 15 (.alt 1 (.alt 16 (.alt 17 .fin .none) .none) .none) .none)) .none)) .none))) .none))) .none))) (.alt 11 (.alt 1 (.alt 8 (.alt 9 (.alt 13 (.alt 14 (.alt 15 (.alt 16 (.alt 17 .fin .none) .none) .none) .none) .none) (.alt 13 (.alt 9 (.alt 14 (.alt 15 (.alt 16 (.alt 17 .fin .none) .none) .none) .none) (.alt 14 (.alt 9 (.alt 15 (.alt 16 (.alt 17 .fin .none) .none) .none) .none) .none)) .none)) (.alt 13 (.alt 8 (.alt 9 (.alt 14 (.alt 15 (.alt 16 (.alt 17 .fin .none) .none) .none) .none) (.alt 14 (.alt 9 (.alt 15 (.alt 16 (.alt 17 .fin .none) .none) .none) .none) .none)) (.alt 14 (.alt 8 (.alt 9 (.alt 15 (.alt 16 (.alt 17 .fin .none) .none) .none) .none) .none) .none)) .none)) (.alt 8 (.alt 1 (.alt 9 (.alt 13 (.alt 14 (.alt 15 (.alt 16 (.alt 17 .fin .none) .none) .none) .none) .none) (.alt 13 (.alt 9 (.alt 14 (.alt 15 (.alt 16 (.alt 17 .fin .none) .none) .none) .none) (.alt 14 (.alt 9 (.alt 15 (.alt 16 (.alt 17 .fin .none) .none) .none) .none) .none)) .none)) (.alt 9 (.alt 1 (.alt 13 (.alt 14 (.alt 15 (.alt 16 (.alt 17 .fin .none) .none) .none) .none) .none) (.alt 13 (.alt 1 (.alt 14 (.alt 15 (.alt 16 (.alt 17 .fin .none) .none) .none) .none) (.alt 14 (.alt 1 (.alt 15 (.alt 16 (.alt 17 .fin .none) .none) .none) (.alt 15 (.alt 1 (.alt 16 (.alt 17 .fin .none) .none) .none) .none)) .none)) .none)) (.alt 13 (.alt 1 (.alt 9 (.alt 14 (.alt 15 (.alt 16 (.alt 17 .fin .none) .none) .none) .none) (.alt 14 (.alt 9 (.alt 15 (.alt 16 (.alt 17 .fin .none) .none) .none) .none) .none)) (.alt 9 (.alt 1 (.alt 14 (.alt 15 (.alt 16 (.alt 17 .fin .none) .none) .none) .none) (.alt 14 (.alt 1 (.alt 15 (.alt 16 (.alt 17 .fin .none) .none) .none) (.alt 15 (.alt 1 (.alt 16 (.alt 17 .fin .none) .none) .none) .none)) .none)) (.alt 14 (.alt 1 (.alt 9 (.alt 15 (.alt 16 (.alt 17 .fin .none) .none) .none) .none) (.alt 9 (.alt 1 (.alt 15 (.alt 16 (.alt 17 .fin .none) .none) .none) (.alt 15 (.alt 1 (.alt 16 (.alt 17 .fin .none) .none) .none) .none)) .none)) .none))) .none))) (.alt 13 (.alt 1 (.alt 8 (.alt 9 (.alt 14 (.alt 15 (.alt 16 (.alt 17 .fin .none) .none) .none) .none) (.alt 14 (.alt 9 (.alt 15 (.alt 16 (.alt 17 .fin .none) .none) .none) .none) .none)) (.alt 14 (.alt 8 (.alt 9 (.alt 15 (.alt 16 (.alt 17 .fin .none) .none) .none) .none) .none) .none)) (.alt 8 (.alt 1 (.alt 9 (.alt 14 (.alt 15 (.alt 16 (.alt 17 .fin .none) .none) .none) .none) (.alt 14 (.alt 9 (.alt 15 (.alt 16 (.alt 17 .fin .none) .none) .none) .none) .none)) (.alt 9 (.alt 1 (.alt 14 (.alt 15 (.alt 16 (.alt 17 .fin .none) .none) .none) .none) (.alt 14 (.alt 1 (.alt 15 (.alt 16 (.alt 17 .fin .none) .none) .none) (.alt 15 (.alt 1 (.alt 16 (.alt 17 .fin .none) .none) .none) .none)) .none)) (.alt 14 (.alt 1 (.alt 9 (.alt 15 (.alt 16 (.alt 17 .fin .none) .none) .none) .none) (.alt 9 (.alt 1 (.alt 15 (.alt 16 (.alt 17 .fin .none) .none) .none) (.alt 15 (.alt 1 (.alt 16 (.alt 17 .fin .none) .none) .none) .none)) .none)) .none))) (.alt 14 (.alt 1 (.alt 8 (.alt 9 (.alt 15 (.alt 16 (.alt 17 .fin .none) .none) .none) .none) .none) (.alt 8 (.alt 1 (.alt 9 (.alt 15 (.alt 16 (.alt 17 .fin .none) .none) .none) .none) (.alt 9 (.alt 1 (.alt 15 (.alt 16 (.alt 17 .fin .none) .none) .none) (.alt 15 (.alt 1 (.alt 16 (.alt 17 .fin .none) .none) .none) .none)) .none)) .none)) .none))) .none))) .none))) (.alt 11 (.alt 1 (.alt 5 (.alt 8 (.alt 9 (.alt 13 (.alt 14 (.alt 15 (.alt 16 (.alt 17 .fin .none) .none) .none) .none) .none) (.alt 13 (.alt 9 (.alt 14 (.alt 15 (.alt 16 (.alt 17 .fin .none) .none) .none) .none) (.alt 14 (.alt 9 (.alt 15 (.alt 16 (.alt 17 .fin .none) .none) .none) .none) .none)) .none)) (.alt 13 (.alt 8 (.alt 9 (.alt 14 (.alt 15 (.alt 16 (.alt 17 .fin .none) .none) .none) .none) (.alt 14 (.alt 9 (.alt 15 (.alt 16 (.alt 17 .fin .none) .none) .none) .none) .none)) (.alt 14 (.alt 8 (.alt 9 (.alt 15 (.alt 16 (.alt 17 .fin .none) .none) .none) .none) .none) .none)) .none)) (.alt 13 (.alt 5 (.alt 8 (.alt 9 (.alt 14 (.alt 15 (.alt 16 (.alt 17 .fin .none) .none) .none) .none) (.alt 14 (.alt 9 (.alt 15 (.alt 16 (.alt 17 .fin .none) .none) .none) .none) .none)) (.alt 14 (.alt 8 (.alt 9 (.alt 15 (.alt 16 (.alt 17 .fin .none) .none) .none) .none) .none) .none)) (.alt 14 (.alt 5 (.alt 8 (.alt 9 (.alt 15 (.alt 16 (.alt 17 .fin .none) .none) .none) .none) .none) .none) .none)) .none)) (.alt 5 (.alt 1 (.alt 8 (.alt 9 (.alt 13 (.alt 14 (.alt 15 (.alt 16 (.alt 17 .fin .none) .none) .none) .none) .none) (.alt 13 (.alt 9 (.alt 14 (.alt 15 (.alt 16 (.alt 17 .fin .none) .none) .none) .none) (.alt 14 (.alt 9 (.alt 15 (.alt 16 (.alt 17 .fin .none) .none) .none) .none) .none)) .none)) (.alt 13 (.alt 8 (.alt 9 (.alt 14 (.alt 15 (.alt 16 (.alt 17 .fin .none) .none) .none) .none) (.alt 14 (.alt 9 (.alt 15 (.alt 16 (.alt 17 .fin .none) .none) .none) .none) .none)) (.alt 14 (.alt 8 (.alt 9 (.alt 15 (.alt 16 (.alt 17 .fin .none) .none) .none) .none) .none) .none)) .none)) (.alt 8 (.alt 1 (.alt 9 (.alt 13 (.alt 14 (.alt 15 (.alt 16 (.alt 17 .fin .none) .none) .none) .none) .none) (.alt 13 (.alt 9 (.alt 14 (.alt 15 (.alt 16 (.alt 17 .fin .none) .none) .none) .none) (.alt 14 (.alt 9 (.alt 15 (.alt 16 (.alt 17 .fin .none) .none) .none) .none) .none)) .none)) (.alt 9 (.alt 1 (.alt 13 (.alt 14 (.alt 15 (.alt 16 (.alt 17 .fin .none) .none) .none) .none) .none) (.alt 13 (.alt 1 (.alt 14 (.alt 15 (.alt 16 (.alt 17 .fin .none) .none) .none) .none) (.alt 14 (.alt 1 (.alt 15 (.alt 16 (.alt 17 .fin .none) .none) .none) (.alt 15 (.alt 1 (.alt 16 (.alt 17 .fin .none) .none) .none) .none)) .none)) .none)) (.alt 13 (.alt 1 (.alt 9 (.alt 14 (.alt 15 (.alt 16 (.alt 17 .fin .none) .none) .none) .none) (.alt 14 (.alt 9 (.alt 15 (.alt 16 (.alt 17 .fin .none) .none) .none) .none) .none)) (.alt 9 (.alt 1 (.alt 14 (.alt 15 (.alt 16 (.alt 17 .fin .none) .none) .none) .none) (.alt 14 (.alt 1 (.alt 15 (.alt 16 (.alt 17 .fin .none) .none) .none) (.alt 15 (.alt 1 (.alt 16 (.alt 17 .fin .none) .none) .none) .none)) .none)) (.alt 14 (.alt 1 (.alt 9 (.alt 15 (.alt 16 (.alt 17 .fin .none) .none) .none) .none) (.alt 9 (.alt 1 (.alt 15 (.alt 16 (.alt 17 .fin .none) .none) .none) (.alt 15 (.alt 1 (.alt 16 (.alt 17 .fin .none) .none) .none) .none)) .none)) .none))) .none))) (.alt 13 (.alt 1 (.alt 8 (.alt 9 (.alt 14 (.alt 15 (.alt 16 (.alt 17 .fin .none) .none) .none) .none) (.alt 14 (.alt 9 (.alt 15 (.alt 16 (.alt 17 .fin .none) .none) .none) .none) .none)) (.alt 14 (.alt 8 (.alt 9 (.alt 15 (.alt 16 (.alt 17 .fin .none) .none) .none) .none) .none) .none)) (.alt 8 (.alt 1 (.alt 9 (.alt 14 (.alt 15 (.alt 16 (.alt 17 .fin .none) .none) .none) .none) (.alt 14 (.alt 9 (.alt 15 (.alt 16 (.alt 17 .fin .none) .none) .none) .none) .none)) (.alt 9 (.alt 1 (.alt 14 (.alt 15 (.alt 16 (.alt 17 .fin .none) .none) .none) .none) (.alt 14 (.alt 1 (.alt 15 (.alt 16 (.alt 17 .fin .none) .none) .none) (.alt 15 (.alt 1 (.alt 16 (.alt 17 .fin .none) .none) .none) .none)) .none)) (.alt 14 (.alt 1 (.alt 9 (.alt 15 (.alt 16 (.alt 17 .fin .none) .none) .none) .none) (.alt 9 (.alt 1 (.alt 15 (.alt 16 (.alt 17 .fin .none) .none) .none) (.alt 15 (.alt 1 (.alt 16 (.alt 17 .fin .none) .none) .none) .none)) .none)) .none))) (.alt 14 (.alt 1 (.alt 8 (.alt 9 (.alt 15 (.alt 16 (.alt 17 .fin .none) .none) .none) .none) .none) (.alt 8 (.alt 1 (.alt 9 (.alt 15 (.alt 16 (.alt 17 .fin .none) .none) .none) .none) (.alt 9 (.alt 1 (.alt 15 (.alt 16 (.alt 17 .fin .none) .none) .none) (.alt 15 (.alt 1 (.alt 16 (.alt 17 .fin .none) .none) .none) .none)) .none)) .none)) .none))) .none))) (.alt 13 (.alt 1 (.alt 5 (.alt 8 (.alt 9 (.alt 14 (.alt 15 (.alt 16 (.alt 17 .fin .none) .none) .none) .none) (.alt 14 (.alt 9 (.alt 15 (.alt 16 (.alt 17 .fin .none) .none) .none) .none) .none)) (.alt 14 (.alt 8 (.alt 9 (.alt 15 (.alt 16 (.alt 17 .fin .none) .none) .none) .none) .none) .none)) (.alt 14 (.alt 5 (.alt 8 (.alt 9 (.alt 15 (.alt 16 (.alt 17 .fin .none) .none) .none) .none) .none) .none) .none)) (.alt 5 (.alt 1 (.alt 8 (.alt 9 (.alt 14 (.alt 15 (.alt 16 (.alt 17 .fin .none) .none) .none) .none) (.alt 14 (.alt 9 (.alt 15 (.alt 16 (.alt 17 .fin .none) .none) .none) .none) .none)) (.alt 14 (.alt 8 (.alt 9 (.alt 15 (.alt 16 (.alt 17 .fin .none) .none) .none) .none) .none) .none)) (.alt 8 (.alt 1 (.alt 9 (.alt 14 (.alt 15 (.alt 16 (.alt 17 .fin .none) .none) .none) .none) (.alt 14 (.alt 9 (.alt 15 (.alt 16 (.alt 17 .fin .none) .none) .none) .none) .none)) (.alt 9 (.alt 1 (.alt 14 (.alt 15 (.alt 16 (.alt 17 .fin .none) .none) .none) .none) (.alt 14 (.alt 1 (.alt 15 (.alt 16 (.alt 17 .fin .none) .none) .none) (.alt 15 (.alt 1 (.alt 16 (.alt 17 .fin .none) .none) .none) .none)) .none)) (.alt 14 (.alt 1 (.alt 9 (.alt 15 (.alt 16 (.alt 17 .fin .none) .none) .none) .none) (.alt 9 (.alt 1 (.alt 15 (.alt 16 (.alt 17 .fin .none) .none) .none) (.alt 15 (.alt 1 (.alt 16 (.alt 17 .fin .none) .none) .none) .none)) .none)) .none))) (.alt 14 (.alt 1 (.alt 8 (.alt 9 (.alt 15 (.alt 16 (.alt 17 .fin .none) .none) .none) .none) .none) (.alt 8 (.alt 1 (.alt 9 (.alt 15 (.alt 16 (.alt 17 .fin .none) .none) .none) .none) (.alt 9 (.alt 1 (.alt 15 (.alt 16 (.alt 17 .fin .none) .none) .none) (.alt 15 (.alt 1 (.alt 16 (.alt 17 .fin .none) .none) .none) .none)) .none)) .none)) .none))) (.alt 14 (.alt 1 (.alt 5 (.alt 8 (.alt 9 (.alt 15 (.alt 16 (.alt 17 .fin .none) .none) .none) .none) .none) .none) (.alt 5 (.alt 1 (.alt 8 (.alt 9 (.alt 15 (.alt 16 (.alt 17 .fin .none) .none) .none) .none) .none) (.alt 8 (.alt 1 (.alt 9 (.alt 15 (.alt 16 (.alt 17 .fin .none) .none) .none) .none) (.alt 9 (.alt 1 (.alt 15 (.alt 16 (.alt 17 .fin .none) .none) .none) (.alt 15 (.alt 1 (.alt 16 (.alt 17 .fin .none) .none) .none) .none)) .none)) .none)) .none)) .none))) .none))) .none))) .none) .none) .none) .none) .none) .none) .none) .none)), (15, (.alt 0 (.alt 2 (.alt 3 (.alt 5 (.alt 8 (.alt 1 (.alt 4 (.alt 6 (.alt 7 (.alt 9 (.alt 10 (.alt 11 .fin .none) .none) .none) .none) .none) .none) (.alt 4 (.alt 1 (.alt 6 (.alt 7 (.alt 9 (.alt 10 (.alt 11 .fin .none) .none) .none) .none) .none) (.alt 6 (.alt 1 (.alt 7 (.alt 9 (.alt 10 (.alt 11 .fin .none) .none) .none) .none) (.alt 7 (.alt 1 (.alt 9 (.alt 10 (.alt 11 .fin .none) .none) .none) (.alt 9 (.alt 1 (.alt 10 (.alt 11 .fin .none) .none) .none) .none)) .none)) .none)) .none)) .none) .none) .none) .none) .none)), (21, (.alt 0 (.alt 2 (.alt 3 (.alt 5 (.alt 8 (.alt 1 (.alt 4 (.alt 6 (.alt 7 (.alt 9 (.alt 10 (.alt 11 .fin .none) .none) .none) .none) .none) .none) (.alt 4 (.alt 1 (.alt 6 (.alt 7 (.alt 9 (.alt 10 (.alt 11 .fin .none) .none) .none) .none) .none) (.alt 6 (.alt 1 (.alt 7 (.alt 9 (.alt 10 (.alt 11 .fin .none) .none) .none) .none) (.alt 7 (.alt 1 (.alt 9 (.alt 10 (.alt 11 .fin .none) .none) .none) (.alt 9 (.alt 1 (.alt 10 (.alt 11 .fin .none) .none) .none) .none)) .none)) .none)) .none)) .none) .none) .none) .none) .none))]
theorem d_removeL (ks : List (List UInt8)) (cs : List (List Ver)) (k : List UInt8) (h1 : ks.length < 100000) (h2 : cs.length = ks.length) (hno : bsIs ks k = true) (H : List (List Blk)) :
    CallEqG X H 53 [⟨30, 1, rowK ks⟩, ⟨58, 1, rowC cs⟩, ⟨26, 3, []⟩] [.agg [.row 0 0 ks.length, .row 0 1 cs.length, .row 0 2 0], .d (encB k)] [none, none, none]
      (.agg [.row 0 0 (ks.length - 1), .row 0 1 (cs.length - 1), .row 0 2 0]) [⟨30, 1, (rowK ks).take (bs ks k) ++ (rowK ks).drop (bs ks k + 1) ++ [[.sl []]]⟩, ⟨58, 1, (rowC cs).take (bs ks k) ++ (rowC cs).drop (bs ks k + 1) ++ [[.sl []]]⟩, ⟨26, 3, []⟩] := by
  have l1 : (rowK ks).length = ks.length := List.length_map ..
  have l2 : (rowC cs).length = cs.length := List.length_map ..
  have hp := fun H => d_place (.mk ks cs []) k (by show ks.length < 1000000; omega) H
  have hle : bs ks k < ks.length := bsIs_lt hno
  have hlf := fun H => d_leaf (.mk ks cs []) H
  rw [show leafN (.mk ks cs []) = true from rfl] at hlf
  rw [show Node.keys (.mk ks cs []) = ks from rfl, hno] at hp
  generalize bs ks k = i at hp hle ⊢
  have hdk := fun H => d_delK (rowK ks) (rowK_one ks) i (i + 1) (by omega) (by omega) (by omega) H
  have hdc := fun H => d_delC (rowC cs) (rowC_one cs) i (i + 1) (by omega) (by omega) (by omega) H
  have hp : ∀ H, CallEq X H 37 [.agg [.d (.sl ((rowK ks).take ks.length)), .d (.sl ((rowC cs).take cs.length)), .d (.sl (List.take 0 []))], .d (encB k)] (.tuple [.d (.int .i64 i), .d (.bool true)]) [] := fun H => by
    rw [List.take_of_length_le (Nat.le_of_eq l1), List.take_of_length_le (Nat.le_of_eq l2)]; exact hp H
  have hlf : ∀ H, CallEq X H 39 [.agg [.d (.sl ((rowK ks).take ks.length)), .d (.sl ((rowC cs).take cs.length)), .d (.sl (List.take 0 []))]] (.d (.bool true)) [] := fun H => by
    rw [List.take_of_length_le (Nat.le_of_eq l1), List.take_of_length_le (Nat.le_of_eq l2)]; exact hlf H
  rw [l1, show i + 1 - i = 1 by omega, show ((i + 1 : Nat) : Int) = (i : Int) + 1 by omega] at hdk
  rw [l2, show i + 1 - i = 1 by omega, show ((i + 1 : Nat) : Int) = (i : Int) + 1 by omega] at hdc
  have hw : IntKind.i64.wrap ((i : Int) + 1) = (i : Int) + 1 := wrap_small (by omega) (by omega)
  generalize rowK ks = xs at l1 hp hlf hdk ⊢
  generalize rowC cs = ys at l2 hp hlf hdc ⊢
  generalize ks.length = n at l1 h1 h2 hp hle hlf hdk ⊢
  generalize cs.length = m at l2 h2 hp hlf hdc ⊢
  refine callEqG_of_bodyM X_ok (mo := mo51) (by kernel_rfl) Try.func53 rfl ?_
  conv => whnf
  refine ⟨_, _, hp _, And.intro rfl flat_nil, ?_⟩
  conv => whnf
  refine ⟨_, _, hlf _, And.intro rfl flat_nil, ?_⟩
  conv => whnf
  refine And.intro (fun q => ?_) (fun q => ?_)
  rotate_left
  · exact absurd q (by decide)
  conv => whnf
  refine And.intro (fun q => ?_) (fun q => ?_)
  rotate_left
  · exact absurd q (by decide)
  conv => whnf
  repeat' (first
    | (refine ⟨_, _, _, hdk _, ?_⟩; conv => whnf)
    | (refine ⟨_, _, _, hdc _, ?_⟩; conv => whnf)
    | (intro z hz; conv => whnf
       rw [hw] at hz
       subst hz
       conv => whnf)
    | (refine And.intro ?_ ?_ <;> (conv => whnf))
    | (refine ⟨[5, 6, 2], rfl, ?_⟩
       (repeat' (first | exact True.intro | exact rfl | refine And.intro ?_ ?_))
       done)
    | fail)
end Go.Proofs.Ve

/- Put, Delete at leaves. -/
set_option maxRecDepth 100000
set_option maxHeartbeats 8000000
set_option linter.all false
namespace Go.Proofs.Ve
open Go
def putRK (ks : List (List UInt8)) (k : List UInt8) : List (List DV) := (rowK ks).take (bs ks k) ++ [[encB k]] ++ (rowK ks).drop (bs ks k)
def putRC (ks : List (List UInt8)) (cs : List (List Ver)) (k : List UInt8) (l : List Ver) : List (List DV) := (rowC cs).take (bs ks k) ++ [[encVs l]] ++ (rowC cs).drop (bs ks k)
/-- may it be put? -/
def putOk (d : Nat) (n : Node) (k : List UInt8) (l : List Ver) : Bool := checkN d n && (decide ((k.length : Int) ≤ 16) && (!((l.length : Int) == 0) && vsOk l))
theorem d_PutL (ks : List (List UInt8)) (cs : List (List Ver)) (k : List UInt8) (l : List Ver) (hn : nOk 1 (.mk ks cs [])) (h2 : cs.length = ks.length) (h3 : ks.length < 3) (hk : k.length ≤ 1000000) (hl : l.length < 1000000) (hlv : ∀ x ∈ l, x.val.length ≤ 1000000)
    (hok : putOk 1 (.mk ks cs []) k l = true) (hno : bsIs ks k = false) (H : List (List Blk)) :
    CallEq X H 24 [pNode (.mk ks cs []), .d (encB k), .d (encVs l)] (.tuple [.agg [.row 0 0 (ks.length + 1), .row 0 1 (cs.length + 1), .row 0 2 0], .d (.int .i64 0)]) [⟨30, 1, putRK ks k⟩, ⟨58, 1, putRC ks cs k l⟩, ⟨26, 3, []⟩] := by
  have b1 := nOk_keys hn
  have b2 := nOk_chains hn
  have hchk := fun H => d_check 1 (.mk ks cs []) (by decide) hn H
  have hown := fun H => d_ownL ks cs b1 b2 (nOk_key hn) (nOk_chain hn) H
  have hput := fun H => d_putL ks cs k l b1 h2 hno H
  have hv := fun H => d_vscheck l hl H
  have hvs := fun H => d_vers l hl hlv H
  simp only [putOk, Bool.and_eq_true, decide_eq_true_eq, Bool.not_eq_true'] at hok
  obtain ⟨o1, o2, o3, o4⟩ := hok
  rw [o1] at hchk
  rw [o4] at hv
  have e1 : ((k.map fun x => [DV.int .u8 (x.toNat : Int)]).length : Int) = k.length := by rw [List.length_map]
  have e2 : ((l.map cVer).length : Int) = l.length := by rw [List.length_map]
  unfold putRK putRC
  refine callEq_of_body X_ok rfl Try.func24 rfl ?_
  conv => whnf
  refine ⟨_, _, hchk _, True.intro, ?_⟩
  conv => whnf
  refine And.intro (fun q => ?_) (fun q => ?_)
  rotate_left
  · exact absurd q (by decide)
  conv => whnf
  refine And.intro (fun q => ?_) (fun q => ?_)
  rotate_left
  · exfalso
    have q := of_decide_eq_true q
    rw [e1] at q; omega
  conv => whnf
  refine And.intro (fun q => ?_) (fun q => ?_)
  rotate_left
  · exfalso
    rw [e2, o3] at q; cases q
  conv => whnf
  refine ⟨_, _, hv _, True.intro, ?_⟩
  conv => whnf
  refine And.intro (fun q => ?_) (fun q => ?_)
  · exact absurd q (by decide)
  conv => whnf
  refine ⟨_, _, hown _, True.intro, ?_⟩
  conv => whnf
  refine And.intro (fun q => ?_) (fun q => ?_)
  · exfalso
    have : (ks.length : Int) = 3 := by simpa using q
    omega
  conv => whnf
  refine ⟨_, _, c103 k (by omega) _, True.intro, ?_⟩
  conv => whnf
  refine ⟨_, _, hvs _, True.intro, ?_⟩
  conv => whnf
  refine ⟨_, _, _, hput _, ?_⟩
  conv => whnf
  refine ⟨[6, 7, 8], rfl, ?_⟩
  (repeat' (first | exact True.intro | exact rfl | refine And.intro ?_ ?_))
theorem d_PutE (ks : List (List UInt8)) (cs : List (List Ver)) (k : List UInt8) (l : List Ver) (hn : nOk 1 (.mk ks cs [])) (hl : l.length < 1000000)
    (hok : putOk 1 (.mk ks cs []) k l = false) (H : List (List Blk)) :
    CallEq X H 24 [pNode (.mk ks cs []), .d (encB k), .d (encVs l)] (.tuple [.agg [.row 0 0 ks.length, .row 0 1 cs.length, .row 0 2 0], .d (.int .i64 1)]) [⟨30, 1, rowK ks⟩, ⟨58, 1, rowC cs⟩, ⟨26, 3, []⟩] := by
  have b1 := nOk_keys hn
  have b2 := nOk_chains hn
  have hchk := fun H => d_check 1 (.mk ks cs []) (by decide) hn H
  have hown := fun H => d_ownL ks cs b1 b2 (nOk_key hn) (nOk_chain hn) H
  have hv := fun H => d_vscheck l hl H
  have e1 : ((k.map fun x => [DV.int .u8 (x.toNat : Int)]).length : Int) = k.length := by rw [List.length_map]
  have e2 : ((l.map cVer).length : Int) = l.length := by rw [List.length_map]
  unfold putOk at hok
  generalize checkN 1 (.mk ks cs []) = R at hchk hok
  generalize vsOk l = V at hv hok
  refine callEq_of_body X_ok rfl Try.func24 rfl ?_
  conv => whnf
  refine ⟨_, _, hchk _, True.intro, ?_⟩
  conv => whnf
  refine And.intro (fun q1 => ?_) (fun q1 => ?_) <;> (conv => whnf)
  rotate_left
  · refine ⟨_, _, hown _, True.intro, ?_⟩
    conv => whnf
    refine ⟨[2, 3, 4], rfl, ?_⟩
    (repeat' (first | exact True.intro | exact rfl | refine And.intro ?_ ?_))
  refine And.intro (fun q2 => ?_) (fun q2 => ?_) <;> (conv => whnf)
  rotate_left
  · refine ⟨_, _, hown _, True.intro, ?_⟩
    conv => whnf
    refine ⟨[2, 3, 4], rfl, ?_⟩
    (repeat' (first | exact True.intro | exact rfl | refine And.intro ?_ ?_))
  refine And.intro (fun q3 => ?_) (fun q3 => ?_) <;> (conv => whnf)
  rotate_left
  · refine ⟨_, _, hown _, True.intro, ?_⟩
    conv => whnf
    refine ⟨[2, 3, 4], rfl, ?_⟩
    (repeat' (first | exact True.intro | exact rfl | refine And.intro ?_ ?_))
  refine ⟨_, _, hv _, True.intro, ?_⟩
  conv => whnf
  refine And.intro (fun q4 => ?_) (fun q4 => ?_) <;> (conv => whnf)
  · refine ⟨_, _, hown _, True.intro, ?_⟩
    conv => whnf
    refine ⟨[2, 3, 4], rfl, ?_⟩
    (repeat' (first | exact True.intro | exact rfl | refine And.intro ?_ ?_))
  · exfalso
    have q2 := of_decide_eq_false q2
    rw [e1] at q2
    rw [e2] at q3
    have q1 : R = true := by simpa using q1
    have q4 : V = true := by simpa using q4
    rw [q1, q4, q3, decide_eq_true (by omega : (k.length : Int) ≤ 16)] at hok
    cases hok
theorem d_DeleteL (ks : List (List UInt8)) (cs : List (List Ver)) (k : List UInt8) (hn : nOk 1 (.mk ks cs [])) (h2 : cs.length = ks.length) (h3 : 2 ≤ ks.length) (hk : k.length ≤ 1000000)
    (hok : checkN 1 (.mk ks cs []) = true) (hyes : bsIs ks k = true) (H : List (List Blk)) :
    CallEq X H 30 [pNode (.mk ks cs []), .d (encB k)] (.tuple [.agg [.row 0 0 (ks.length - 1), .row 0 1 (cs.length - 1), .row 0 2 0], .d (.int .i64 0)])
      [⟨30, 1, (rowK ks).take (bs ks k) ++ (rowK ks).drop (bs ks k + 1) ++ [[.sl []]]⟩, ⟨58, 1, (rowC cs).take (bs ks k) ++ (rowC cs).drop (bs ks k + 1) ++ [[.sl []]]⟩, ⟨26, 3, []⟩] := by
  have b1 := nOk_keys hn
  have b2 := nOk_chains hn
  have hchk := fun H => d_check 1 (.mk ks cs []) (by decide) hn H
  have hown := fun H => d_ownL ks cs b1 b2 (nOk_key hn) (nOk_chain hn) H
  have hrem := fun H => d_removeL ks cs k b1 h2 hyes H
  have hlt := bsIs_lt hyes
  have hfind := fun H => d_find 1 (.mk ks cs []) k (by decide) hn H
  obtain ⟨c, hc⟩ : ∃ c, findA 1 (.mk ks cs []) k = some c := by
    obtain ⟨c, hc⟩ : ∃ c, cs[bs ks k]? = some c := ⟨_, List.getElem?_eq_getElem (by omega)⟩
    exact ⟨c, by unfold findA; rw [if_pos hok]; unfold findN; rw [if_pos (show bsIs (Node.keys (.mk ks cs [])) k = true from hyes)]; exact hc⟩
  rw [hc] at hfind
  rw [hok] at hchk
  unfold ansV at hfind
  refine callEq_of_body X_ok rfl Try.func30 rfl ?_
  conv => whnf
  refine ⟨_, _, hchk _, True.intro, ?_⟩
  conv => whnf
  refine And.intro (fun q => ?_) (fun q => ?_)
  · exact absurd q (by decide)
  conv => whnf
  refine ⟨_, _, hfind _, True.intro, ?_⟩
  conv => whnf
  refine And.intro (fun q => ?_) (fun q => ?_)
  · exact absurd q Bool.false_ne_true
  conv => whnf
  refine ⟨_, _, hown _, True.intro, ?_⟩
  conv => whnf
  refine ⟨_, _, c103 k (by omega) _, True.intro, ?_⟩
  conv => whnf
  refine ⟨_, _, _, hrem _, ?_⟩
  conv => whnf
  refine And.intro (fun q => ?_) (fun q => ?_)
  · exfalso
    have : ((ks.length - 1 : Nat) : Int) = 0 := by simpa using q
    omega
  conv => whnf
  refine ⟨[5, 6, 7], rfl, ?_⟩
  (repeat' (first | exact True.intro | exact rfl | refine And.intro ?_ ?_))
theorem d_DeleteN (ks : List (List UInt8)) (cs : List (List Ver)) (k : List UInt8) (hn : nOk 1 (.mk ks cs [])) (hok : checkN 1 (.mk ks cs []) = true) (hno : findA 1 (.mk ks cs []) k = none) (H : List (List Blk)) :
    CallEq X H 30 [pNode (.mk ks cs []), .d (encB k)] (.tuple [.agg [.row 0 0 ks.length, .row 0 1 cs.length, .row 0 2 0], .d (.int .i64 61)]) [⟨30, 1, rowK ks⟩, ⟨58, 1, rowC cs⟩, ⟨26, 3, []⟩] := by
  have b1 := nOk_keys hn
  have b2 := nOk_chains hn
  have hchk := fun H => d_check 1 (.mk ks cs []) (by decide) hn H
  have hown := fun H => d_ownL ks cs b1 b2 (nOk_key hn) (nOk_chain hn) H
  have hfind := fun H => d_find 1 (.mk ks cs []) k (by decide) hn H
  rw [hno] at hfind
  rw [hok] at hchk
  unfold ansV at hfind
  refine callEq_of_body X_ok rfl Try.func30 rfl ?_
  conv => whnf
  refine ⟨_, _, hchk _, True.intro, ?_⟩
  conv => whnf
  refine And.intro (fun q => ?_) (fun q => ?_)
  · exact absurd q (by decide)
  conv => whnf
  refine ⟨_, _, hfind _, True.intro, ?_⟩
  conv => whnf
  refine And.intro (fun q => ?_) (fun q => ?_)
  rotate_left
  · exact absurd q (by decide)
  conv => whnf
  refine ⟨_, _, hown _, True.intro, ?_⟩
  conv => whnf
  refine ⟨[2, 3, 4], rfl, ?_⟩
  (repeat' (first | exact True.intro | exact rfl | refine And.intro ?_ ?_))
end Go.Proofs.Ve

/- Stores: a node in memory of its own. -/
set_option maxRecDepth 100000
set_option maxHeartbeats 8000000
set_option linter.all false
namespace Go.Proofs.Ve
open Go
/-- versions, each row its own for the first i -/
def chD (cs : List (List Ver)) (i : Nat) : List (List DV) := (cs.take i).map (fun c => [DV.own 64 3 (c.map cVer)]) ++ (cs.drop i).map fun c => [encVs c]
theorem chD_zero (cs : List (List Ver)) : rowC cs = chD cs 0 := by unfold chD rowC; simp
theorem chD_len (cs : List (List Ver)) (i : Nat) : (chD cs i).length = cs.length := by unfold chD; simp; omega
theorem chD_get {cs : List (List Ver)} {i : Nat} {c : List Ver} (h : cs[i]? = some c) : (chD cs i)[i]? = some [encVs c] := by
  have hi := (List.getElem?_eq_some_iff.1 h).1
  unfold chD
  rw [List.getElem?_append_right (by simp; omega)]
  simp only [List.length_map, List.length_take, List.getElem?_map, List.getElem?_drop]
  rw [show i + (i - min i cs.length) = i by omega, h]; rfl
theorem chD_set {cs : List (List Ver)} {i : Nat} {c : List Ver} (h : cs[i]? = some c) : (chD cs i).set i [DV.own 64 3 (c.map cVer)] = chD cs (i + 1) := by
  have hi := (List.getElem?_eq_some_iff.1 h).1
  have hc : cs[i] = c := (List.getElem?_eq_some_iff.1 h).2
  unfold chD
  rw [List.set_append_right _ _ (by simp; omega)]
  simp only [List.length_map, List.length_take]
  rw [show i - min i cs.length = 0 by omega, List.drop_eq_getElem_cons hi, List.take_succ_eq_append_getElem hi, hc]
  simp
theorem plV (c : List Ver) : plRows (c.map cVer) = c.map cVer := by rw [plRows_eq, List.map_map]; rfl
theorem chD_pl (cs : List (List Ver)) (i : Nat) : plRows (chD cs i) = rowC cs := by
  have e : ((fun x => x.map DV.pl) ∘ fun c : List Ver => [DV.own 64 3 (c.map cVer)]) = fun c => [encVs c] := funext fun c => by
    show [DV.sl (plRows (c.map cVer))] = [encVs c]
    rw [plV]; rfl
  rw [plRows_eq]
  unfold chD rowC
  rw [List.map_append, List.map_map, List.map_map, e]
  conv => rhs; rw [← List.take_append_drop i cs, List.map_append]
  rfl
theorem set_id {α : Type} {l : List α} {i : Nat} {x : α} (h : l[i]? = some x) : l.set i x = l := by
  refine List.ext_getElem? fun j => ?_
  rw [List.getElem?_set]
  have hi := (List.getElem?_eq_some_iff.1 h).1
  split
  · rename_i e; subst e; first | exact h.symm | (rw [if_pos hi]; exact h.symm)
  · rfl
theorem s_node_step (d : Nat) (ih : ∀ (t : Node), nOk d t → ∀ (H : List (List Blk)), CallEq X H 36 [pNode t] (pNode t) []) (ks : List (List UInt8)) (cs : List (List Ver)) (ns : List Node) (ht : nOk (d + 1) (.mk ks cs ns)) (H : List (List Blk)) :
    CallEq X H 36 [pNode (.mk ks cs ns)] (pNode (.mk ks cs ns)) [] := by
  have l1 : (rowK ks).length = ks.length := List.length_map ..
  have l2 : (rowC cs).length = cs.length := List.length_map ..
  have l3 : (ns.map cNode).length = ns.length := List.length_map ..
  have hk1 : ks.length < 100000 := nOk_keys ht
  have hk2 : cs.length < 100000 := nOk_chains ht
  have hk3 : ns.length < 100000 := nOk_kids ht
  have h3 : ∀ x ∈ ks, x.length ≤ 1000000 := nOk_key ht
  have h4 : ∀ y ∈ cs, y.length < 100000 ∧ ∀ v ∈ y, v.val.length ≤ 1000000 := nOk_chain ht
  have hn3 : ∀ x ∈ ns.map cNode, x.length = 3 := fun x hx => by
    obtain ⟨n, _, rfl⟩ := List.mem_map.1 hx
    rw [cNode_eq]; rfl
  refine callEq_of_bodyD X_ok false true [58] [26] (mo := []) (by kernel_rfl) Try.func36 rfl ?_
  conv => whnf
  refine ⟨_, _, (d_cloneK (rowK ks) (rowK_one ks) (by omega) _).mdd _ _ _ _, True.intro, ?_⟩
  conv => whnf
  refine ⟨_, _, (d_cloneC (rowC cs) (rowC_one cs) (by omega) _).mdd _ _ _ _, True.intro, ?_⟩
  conv => whnf
  refine ⟨_, _, (d_cloneN (ns.map cNode) hn3 (by omega) _).mdd _ _ _ _, True.intro, ?_⟩
  conv => whnf
  refine loopV_of (fun i : Nat => ⟨[.any, .ptr 0 0 0, .ptr 0 1 0, .ptr 0 5 0, .any, .any, .any, .any, .any, .any, .any, .any, .any, .any, .any, .any, .any, .any, .any, .any, .any, .any, .any, .row 0 2 (rowK ks).length, .d (.int .i64 (rowK ks).length), .d (.int .i64 i), .any, .any, .any, .any, .any, .any, .any, .any, .any, .any, .any, .any, .any, .any, .any, .any, .any, .any, .any, .any, .any, .any, .any, .any, .any, .any, .any, .any, .any, .any, .any, .any, .any, .any, .any, .any, .any, .any, .any, .any, .any, .any, .any, .any, .any, .any, .any, .any, .any, .any, .any, .any, .any, .any, .any, .any, .any, .any, .any, .any, .any, .any, .any, .any, .any], [.box [.any, .any, .any], .box [.any, .any, .any], .row 30 1 (rowK ks), .row 58 1 (rowC cs), .row 26 3 (ns.map cNode), .box [.row 0 2 (rowK ks).length, .row 0 3 (rowC cs).length, .row 0 4 (ns.map cNode).length]]⟩)
    (fun i => i ≤ ks.length) (fun i => ks.length - i) 0 [0, 1, 2, 3, 4, 5] (Nat.zero_le _) ?_ ?_
  · refine And.intro rfl (And.intro ?_ ?_)
    all_goals (repeat' (first | exact True.intro | exact rfl | refine And.intro ?_ ?_))
  · intro i hi
    conv => whnf
    refine And.intro (fun q => ?_) (fun q => ?_)
    · conv => whnf
      have hi' : i < ks.length := by rw [l1] at q; simpa using q
      obtain ⟨k, hk⟩ : ∃ x, ks[i]? = some x := ⟨_, List.getElem?_eq_getElem hi'⟩
      have hkl := h3 k (List.mem_of_getElem? hk)
      have hg : (rowK ks)[((i : Nat) : Int).toNat]? = some [encB k] := by unfold rowK; rw [Int.toNat_natCast, List.getElem?_map, hk]; rfl
      have hset : (rowK ks).set ((i : Nat) : Int).toNat [encB k] = rowK ks := by rw [Int.toNat_natCast]; exact set_same (f := fun k => [encB k]) hk
      refine ⟨by omega, by rw [l1]; omega, ?_⟩
      conv => whnf
      refine ⟨[encB k], hg, ?_⟩
      conv => whnf
      refine ⟨_, _, (c103 k (by omega) _).mdd _ _ _ _, True.intro, ?_⟩
      conv => whnf
      refine ⟨by omega, by rw [l1]; omega, ?_⟩
      conv => whnf
      refine ⟨[encB k], hg, ?_⟩
      conv => whnf
      intro z hz
      conv => whnf
      rw [wrap_small (by omega) (by omega)] at hz
      subst hz
      refine ⟨i + 1, [0, 1, 2, 3, 4, 5], by omega, by omega, And.intro rfl (And.intro ?_ ?_)⟩
      all_goals (repeat' (first | exact True.intro | exact rfl | refine And.intro ?_ ?_))
      exact hset
    · conv => whnf
      refine loopV_of (fun i : Nat => ⟨[.any, .ptr 0 0 0, .ptr 0 1 0, .ptr 0 5 0, .any, .any, .any, .any, .any, .any, .any, .any, .any, .any, .any, .any, .any, .any, .any, .any, .any, .any, .any, .any, .any, .any, .any, .any, .any, .any, .any, .any, .any, .any, .any, .any, .any, .any, .row 0 3 (rowC cs).length, .d (.int .i64 (rowC cs).length), .d (.int .i64 i), .any, .any, .any, .any, .any, .any, .any, .any, .any, .any, .any, .any, .any, .any, .any, .any, .any, .any, .any, .any, .any, .any, .any, .any, .any, .any, .any, .any, .any, .any, .any, .any, .any, .any, .any, .any, .any, .any, .any, .any, .any, .any, .any, .any, .any, .any, .any, .any, .any, .any], [.box [.any, .any, .any], .box [.any, .any, .any], .row 30 1 (rowK ks), .deep 58 1 (chD cs i), .row 26 3 (ns.map cNode),   .box [.row 0 2 (rowK ks).length, .row 0 3 (rowC cs).length, .row 0 4 (ns.map cNode).length]]⟩)
        (fun i => i ≤ cs.length) (fun i => cs.length - i) 0 [0, 1, 2, 3, 4, 5] (Nat.zero_le _) ?_ ?_
      · refine And.intro rfl (And.intro ?_ ?_)
        all_goals (repeat' (first | exact True.intro | exact rfl | refine And.intro ?_ ?_))
        all_goals exact chD_zero cs
      · clear q hi
        clear i
        intro i hi
        conv => whnf
        refine And.intro (fun q => ?_) (fun q => ?_)
        · conv => whnf
          have hi' : i < cs.length := by rw [l2] at q; simpa using q
          obtain ⟨c, hc⟩ : ∃ x, cs[i]? = some x := ⟨_, List.getElem?_eq_getElem hi'⟩
          have hcl := h4 c (List.mem_of_getElem? hc)
          have hcm : (c.map cVer).length = c.length := List.length_map ..
          have hc3 : ∀ x ∈ c.map cVer, x.length = 3 := fun x hx => by simp only [List.mem_map] at hx; obtain ⟨_, _, rfl⟩ := hx; rfl
          have hg : (chD cs i)[((i : Nat) : Int).toNat]? = some [encVs c] := by rw [Int.toNat_natCast]; exact chD_get hc
          have hset : (chD cs i).set ((i : Nat) : Int).toNat [DV.own 64 3 (c.map cVer)] = chD cs (i + 1) := by rw [Int.toNat_natCast]; exact chD_set hc
          have hcl1 : (chD cs i).length = cs.length := chD_len cs i
          have hcl2 : (chD cs (i + 1)).length = cs.length := chD_len cs (i + 1)
          have hgn : (chD cs (i + 1))[((i : Nat) : Int).toNat]? = some [DV.own 64 3 (c.map cVer)] := by rw [← hset, List.getElem?_set_self (by rw [Int.toNat_natCast]; omega)]
          refine ⟨by omega, by omega, ?_⟩
          conv => whnf
          refine ⟨[encVs c], hg, ?_⟩
          conv => whnf
          refine ⟨_, _, (d_cloneV (c.map cVer) hc3 (by omega) _).mdd _ _ _ _, True.intro, ?_⟩
          conv => whnf
          refine ⟨by omega, by omega, ?_⟩
          conv => whnf
          refine ⟨rfl, ?_⟩
          conv => whnf
          refine ⟨[encVs c], hg, ?_⟩
          conv => whnf
          rw [hset]
          refine ⟨by omega, by omega, ?_⟩
          conv => whnf
          refine ⟨_, hgn, ?_⟩
          conv => whnf
          refine loopV_of (fun k : Nat => ⟨[.any, .ptr 0 0 0, .ptr 0 1 0, .ptr 0 5 0, .any, .any, .d (.int .i64 i), .any, .any, .any, .any, .any, .any, .any, .any, .any, .any, .any, .any, .any, .any, .any, .any, .any, .any, .any, .any, .any, .any, .any, .any, .any, .any, .any, .any, .any, .any, .any, .row 0 3 (rowC cs).length, .d (.int .i64 (rowC cs).length), .d (.int .i64 i), .any, .any, .any, .any, .any, .any, .any, .any, .any, .any, .any, .any, .any, .any, .row 0 6 (c.map cVer).length, .d (.int .i64 (c.map cVer).length), .d (.int .i64 k), .any, .any, .any, .any, .any, .any, .any, .any, .any, .any, .any, .any, .any, .any, .any, .any, .any, .any, .any, .any, .any, .any, .any, .any, .any, .any, .any, .any, .any, .any, .any, .any, .any],
              [.box [.any, .any, .any], .box [.any, .any, .any], .row 30 1 (rowK ks), .deep 58 1 (chD cs (i + 1)), .row 26 3 (ns.map cNode), .box [.row 0 2 (rowK ks).length, .row 0 3 (rowC cs).length, .row 0 4 (ns.map cNode).length], .sub 3 i 0]⟩)
            (fun k => k ≤ c.length) (fun k => c.length - k) 0 [0, 1, 2, 3, 4, 5, 7] (Nat.zero_le _) ?_ ?_
          · refine And.intro rfl (And.intro ?_ ?_)
            all_goals (repeat' (first | exact True.intro | exact rfl | refine And.intro ?_ ?_))
          · intro k hk
            have hgn' : (chD cs (i + 1))[i]? = some [DV.own 64 3 (c.map cVer)] := by rw [Int.toNat_natCast] at hgn; exact hgn
            conv => whnf
            refine And.intro (fun q => ?_) (fun q => ?_)
            · conv => whnf
              have hk' : k < c.length := by rw [hcm] at q; simpa using q
              obtain ⟨v, hv⟩ : ∃ x, c[k]? = some x := ⟨_, List.getElem?_eq_getElem hk'⟩
              have hvl := hcl.2 v (List.mem_of_getElem? hv)
              have hvg : (c.map cVer)[((k : Nat) : Int).toNat]? = some (cVer v) := by rw [Int.toNat_natCast, List.getElem?_map, hv]; rfl
              have hvs : (c.map cVer).set ((k : Nat) : Int).toNat (cVer v) = c.map cVer := by rw [Int.toNat_natCast]; exact set_same hv
              refine ⟨_, hgn', ?_⟩
              conv => whnf
              refine ⟨by omega, by omega, ?_⟩
              conv => whnf
              refine ⟨_, hgn', ?_⟩
              conv => whnf
              refine ⟨cVer v, hvg, ?_⟩
              conv => whnf
              refine ⟨by omega, by omega, ?_⟩
              conv => whnf
              refine ⟨_, hgn, ?_⟩
              conv => whnf
              refine ⟨_, _, (c103 v.val (by omega) _).mdd _ _ _ _, True.intro, ?_⟩
              conv => whnf
              refine ⟨_, hgn, ?_⟩
              conv => whnf
              refine ⟨by omega, by omega, ?_⟩
              conv => whnf
              refine ⟨_, hgn, ?_⟩
              conv => whnf
              refine ⟨cVer v, hvg, ?_⟩
              conv => whnf
              intro z hz
              conv => whnf
              rw [wrap_small (by omega) (by omega)] at hz
              subst hz
              refine ⟨k + 1, [0, 1, 2, 3, 4, 5, 6], by omega, by omega, And.intro rfl (And.intro ?_ ?_)⟩
              all_goals (repeat' (first | exact True.intro | exact rfl | refine And.intro ?_ ?_))
              have h1 : (c.map cVer).set ((k : Nat) : Int).toNat [DV.int .i64 v.stamp, DV.bool v.gone, encB v.val] = c.map cVer := hvs
              rw [h1]
              exact set_id hgn
            · conv => whnf
              intro z hz
              conv => whnf
              rw [wrap_small (by omega) (by omega)] at hz
              subst hz
              refine ⟨i + 1, [0, 1, 2, 3, 4, 5], by omega, by omega, And.intro rfl (And.intro ?_ ?_)⟩
              all_goals (repeat' (first | exact True.intro | exact rfl | refine And.intro ?_ ?_))
        · conv => whnf
          have hi' : i = cs.length := by rw [l2] at q; simp at q; omega
          subst hi'
          refine loopV_of (fun i : Nat => ⟨[.any, .ptr 0 0 0, .ptr 0 1 0, .ptr 0 5 0, .any, .any, .any, .any, .any, .any, .any, .any, .any, .any, .any, .any, .any, .any, .any, .any, .any, .any, .any, .any, .any, .any, .any, .any, .any, .any, .any, .any, .any, .any, .any, .any, .any, .any, .any, .any, .any, .any, .any, .any, .any, .any, .any, .any, .any, .any, .any, .any, .any, .any, .any, .any, .any, .any, .any, .any, .any, .any, .any, .any, .any, .any, .any, .any, .any, .any, .any, .any, .any, .any, .any, .any, .row 0 4 (ns.map cNode).length, .d (.int .i64 (ns.map cNode).length), .d (.int .i64 i), .any, .any, .any, .any, .any, .any, .any, .any, .any, .any, .any, .any], [.box [.any, .any, .any], .box [.any, .any, .any], .row 30 1 (rowK ks), .deep 58 1 (chD cs cs.length), .row 26 3 (ns.map cNode), .box [.row 0 2 (rowK ks).length, .row 0 3 (rowC cs).length, .row 0 4 (ns.map cNode).length]]⟩)
            (fun i => i ≤ ns.length) (fun i => ns.length - i) 0 [0, 1, 2, 3, 4, 5] (Nat.zero_le _) ?_ ?_
          · refine And.intro rfl (And.intro ?_ ?_)
            all_goals (repeat' (first | exact True.intro | exact rfl | refine And.intro ?_ ?_))
          · clear q hi
            intro i hi
            conv => whnf
            refine And.intro (fun q => ?_) (fun q => ?_)
            · conv => whnf
              have hi' : i < ns.length := by rw [l3] at q; simpa using q
              obtain ⟨n, hn⟩ : ∃ x, ns[i]? = some x := ⟨_, List.getElem?_eq_getElem hi'⟩
              have hnk := nOk_kid ht n (List.mem_of_getElem? hn)
              have hg : (ns.map cNode)[((i : Nat) : Int).toNat]? = some [encKs n.keys, encCs n.chains, encNs n.kids] := by rw [Int.toNat_natCast, List.getElem?_map, hn, ← cNode_eq]; rfl
              have hset : (ns.map cNode).set ((i : Nat) : Int).toNat [encKs n.keys, encCs n.chains, encNs n.kids] = ns.map cNode := by rw [Int.toNat_natCast, ← cNode_eq]; exact set_same hn
              refine ⟨by omega, by omega, ?_⟩
              conv => whnf
              refine ⟨_, hg, ?_⟩
              conv => whnf
              refine ⟨_, _, (ih n hnk _).mdd _ _ _ _, True.intro, ?_⟩
              conv => whnf
              refine ⟨by omega, by omega, ?_⟩
              conv => whnf
              refine ⟨_, hg, ?_⟩
              conv => whnf
              intro z hz
              conv => whnf
              rw [wrap_small (by omega) (by omega)] at hz
              subst hz
              refine ⟨i + 1, [0, 1, 2, 3, 4, 5], by omega, by omega, And.intro rfl (And.intro ?_ ?_)⟩
              all_goals (repeat' (first | exact True.intro | exact rfl | refine And.intro ?_ ?_))
              exact hset
            · conv => whnf
              refine ⟨[], rfl, ?_, True.intro⟩
              refine And.intro ?_ (And.intro ?_ (And.intro ?_ True.intro))
              · show DV.sl _ = DV.sl _
                rw [List.take_of_length_le (Nat.le_refl _)]; rfl
              · show DV.sl _ = DV.sl _
                rw [chD_pl, List.take_of_length_le (Nat.le_refl _)]; rfl
              · show DV.sl _ = DV.sl _
                rw [List.take_of_length_le (Nat.le_refl _)]; rfl
theorem s_node : ∀ (d : Nat) (t : Node), nOk d t → ∀ (H : List (List Blk)), CallEq X H 36 [pNode t] (pNode t) []
  | 0, _, h, _ => h.elim
  | d + 1, .mk ks cs ns, ht, H => s_node_step d (s_node d) ks cs ns ht H
end Go.Proofs.Ve

/- Stores: own, Check; versions: behind, Read, Newer. -/
set_option maxRecDepth 100000
set_option maxHeartbeats 8000000
set_option linter.all false
namespace Go.Proofs.Ve
open Go
structure Sto where
  a : Node
  b : Node
  c : Node
  d : Node
def Sto.cells (s : Sto) : List PV := [.d (encKs s.a.keys), .d (encCs s.a.chains), .d (encNs s.a.kids), .d (encKs s.b.keys), .d (encCs s.b.chains), .d (encNs s.b.kids), .d (encKs s.c.keys), .d (encCs s.c.chains), .d (encNs s.c.kids), .d (encKs s.d.keys), .d (encCs s.d.chains), .d (encNs s.d.kids)]
def pSto (s : Sto) : PV := .agg s.cells
def Sto.list (s : Sto) : List Node := [s.a, s.b, s.c, s.d]
def sOk (d : Nat) (s : Sto) : Prop := nOk d s.a ∧ nOk d s.b ∧ nOk d s.c ∧ nOk d s.d
def ownB (s : Sto) : Nat → List PV
  | 0 => [.nils, .nils, .nils, .nils, .nils, .nils, .nils, .nils, .nils, .nils, .nils, .nils]
  | 1 => [.d (encKs s.a.keys), .d (encCs s.a.chains), .d (encNs s.a.kids), .nils, .nils, .nils, .nils, .nils, .nils, .nils, .nils, .nils]
  | 2 => [.d (encKs s.a.keys), .d (encCs s.a.chains), .d (encNs s.a.kids), .d (encKs s.b.keys), .d (encCs s.b.chains), .d (encNs s.b.kids), .nils, .nils, .nils, .nils, .nils, .nils]
  | 3 => [.d (encKs s.a.keys), .d (encCs s.a.chains), .d (encNs s.a.kids), .d (encKs s.b.keys), .d (encCs s.b.chains), .d (encNs s.b.kids), .d (encKs s.c.keys), .d (encCs s.c.chains), .d (encNs s.c.kids), .nils, .nils, .nils]
  | _ => s.cells
theorem s_own (d : Nat) (s : Sto) (hs : sOk d s) (H : List (List Blk)) : CallEq X H 20 [pSto s] (pSto s) [] := by
  obtain ⟨ha, hb, hc, hd⟩ := hs
  refine callEq_of_body X_ok rfl Try.func20 rfl ?_
  conv => whnf
  refine loopV_of (fun i : Nat => ⟨[.any, .ptr 0 0 0, .ptr 0 1 0, .any, .any, .any, pSto s, .d (.int .i64 i), .any, .any, .any, .any, .any, .any, .any, .any, .any, .any], [.box s.cells, .box (ownB s i)]⟩) (fun i => i ≤ 4) (fun i => 4 - i) 0 [0, 1] (by omega) ?_ ?_
  · refine And.intro rfl (And.intro ?_ ?_)
    all_goals (repeat' (first | exact True.intro | exact rfl | refine And.intro ?_ ?_))
  · intro i hi
    rcases (show i = 0 ∨ i = 1 ∨ i = 2 ∨ i = 3 ∨ i = 4 by omega) with rfl | rfl | rfl | rfl | rfl
    · conv => whnf
      refine And.intro (fun q => ?_) (fun q => ?_)
      · conv => whnf
        refine ⟨by decide, by decide, ?_⟩
        conv => whnf
        refine ⟨_, _, s_node d s.a ha _, True.intro, ?_⟩
        conv => whnf
        refine ⟨by decide, by decide, ?_⟩
        conv => whnf
        refine ⟨0, rfl, ?_⟩
        conv => whnf
        intro z hz
        conv => whnf
        rw [wrap_small (by omega) (by omega)] at hz
        subst hz
        refine ⟨1, [0, 1], by omega, by omega, And.intro rfl (And.intro ?_ ?_)⟩
        all_goals (repeat' (first | exact True.intro | exact rfl | refine And.intro ?_ ?_))
      · exact absurd q (by decide)
    · conv => whnf
      refine And.intro (fun q => ?_) (fun q => ?_)
      · conv => whnf
        refine ⟨by decide, by decide, ?_⟩
        conv => whnf
        refine ⟨_, _, s_node d s.b hb _, True.intro, ?_⟩
        conv => whnf
        refine ⟨by decide, by decide, ?_⟩
        conv => whnf
        refine ⟨1, rfl, ?_⟩
        conv => whnf
        intro z hz
        conv => whnf
        rw [wrap_small (by omega) (by omega)] at hz
        subst hz
        refine ⟨2, [0, 1], by omega, by omega, And.intro rfl (And.intro ?_ ?_)⟩
        all_goals (repeat' (first | exact True.intro | exact rfl | refine And.intro ?_ ?_))
      · exact absurd q (by decide)
    · conv => whnf
      refine And.intro (fun q => ?_) (fun q => ?_)
      · conv => whnf
        refine ⟨by decide, by decide, ?_⟩
        conv => whnf
        refine ⟨_, _, s_node d s.c hc _, True.intro, ?_⟩
        conv => whnf
        refine ⟨by decide, by decide, ?_⟩
        conv => whnf
        refine ⟨2, rfl, ?_⟩
        conv => whnf
        intro z hz
        conv => whnf
        rw [wrap_small (by omega) (by omega)] at hz
        subst hz
        refine ⟨3, [0, 1], by omega, by omega, And.intro rfl (And.intro ?_ ?_)⟩
        all_goals (repeat' (first | exact True.intro | exact rfl | refine And.intro ?_ ?_))
      · exact absurd q (by decide)
    · conv => whnf
      refine And.intro (fun q => ?_) (fun q => ?_)
      · conv => whnf
        refine ⟨by decide, by decide, ?_⟩
        conv => whnf
        refine ⟨_, _, s_node d s.d hd _, True.intro, ?_⟩
        conv => whnf
        refine ⟨by decide, by decide, ?_⟩
        conv => whnf
        refine ⟨3, rfl, ?_⟩
        conv => whnf
        intro z hz
        conv => whnf
        rw [wrap_small (by omega) (by omega)] at hz
        subst hz
        refine ⟨4, [0, 1], by omega, by omega, And.intro rfl (And.intro ?_ ?_)⟩
        all_goals (repeat' (first | exact True.intro | exact rfl | refine And.intro ?_ ?_))
      · exact absurd q (by decide)
    · conv => whnf
      refine And.intro (fun q => ?_) (fun q => ?_)
      · exact absurd q (by decide)
      · conv => whnf
        exact ⟨[], rfl, by (repeat' (first | exact True.intro | exact rfl | refine And.intro ?_ ?_))⟩
/-! ### may a store be -/
def kNode (n : Node) : List DV := [encKs n.keys, encCs n.chains, encNs n.kids]
def badT (d : Nat) (n : Node) : Bool := !checkN d n || decide (((keysN d n).length : Int) > 60)
theorem c_badT (d : Nat) (n : Node) (hd : d ≤ 16) (hn : nOk d n) (H : List (List Blk)) : CallEq X H 33 [pNode n] (.d (.bool (badT d n))) [] := by
  have h1 := fun H => d_check d n (by omega) hn H
  have h2 := fun H => d_many d n hd hn H
  unfold badT
  generalize checkN d n = C at h1 ⊢
  refine callEq_of_body X_ok rfl Try.func33 rfl ?_
  conv => whnf
  repeat' (first
    | (refine And.intro (fun h_ => ?_) (fun h_ => ?_) <;> (conv => whnf))
    | (refine ⟨_, _, h1 _, (by first | exact True.intro | exact And.intro rfl flat_nil), ?_⟩; conv => whnf)
    | (refine ⟨_, _, h2 _, (by first | exact True.intro | exact And.intro rfl flat_nil), ?_⟩; conv => whnf)
    | (intro z_ hz_; conv => whnf)
    | (refine ⟨[], rfl, ?_, True.intro⟩; (conv => whnf); (first | done | (simp_all only [refP, Bool.not_true, Bool.not_false, Bool.true_and, Bool.false_and, Bool.and_true, Bool.and_false, Bool.true_or, Bool.false_or, Bool.or_true, Bool.or_false, Bool.not_not, Bool.not_eq_true', Bool.not_eq_false', if_true, if_false, Bool.false_eq_true, Bool.true_eq_false, List.length_map]; done)))
    | fail)
theorem i_badT (p : Node → Bool)  (xs : List Node) (H : List (List Blk)) (hlen : xs.length < 1000000) (hp : ∀ x, x ∈ xs → ∀ T, CallEq X (T :: H) 33 [pNode x] (.d (.bool (p x))) []) :
    CallEq X H 54 [.d (.sl (xs.map kNode)), .func (.func 33) [] []] (.d (.int .i64 (idxOf p xs 0))) [] := by
  refine callEq_of_body X_ok rfl Try.func54 rfl ?_
  conv => whnf
  refine loopV_of (fun k : Nat => ⟨[.d (.sl (xs.map kNode)), .func (.func 33) [] [], .any, .any, .any, .any, .any, .d (.int .i64 (xs.map kNode).length), .d (.int .i64 k), .any, .any, .any, .any, .any, .any, .any, .any, .any, .any], []⟩) (fun k => k ≤ xs.length ∧ idxOf p xs 0 = idxOf p (xs.drop k) k) (fun k => xs.length - k) 0 [] ⟨Nat.zero_le _, by simp⟩ ?_ ?_
  · refine And.intro rfl (And.intro ?_ True.intro)
    repeat' (first | exact True.intro | exact rfl | refine And.intro ?_ ?_)
  · rintro k ⟨hk, hidx⟩
    conv => whnf
    refine And.intro (fun h_ => ?_) (fun h_ => ?_)
    · conv => whnf
      have hk' : k < xs.length := by simpa using h_
      obtain ⟨x, hx⟩ : ∃ x, xs[k]? = some x := ⟨_, List.getElem?_eq_getElem hk'⟩
      have hst := idxOf_step (p := p) hx
      refine ⟨by omega, kNode x, by simp [hx], rfl, ?_⟩
      conv => whnf
      refine ⟨_, _, hp x (List.mem_of_getElem? hx) _, True.intro, ?_⟩
      conv => whnf
      refine And.intro (fun h1 => ?_) (fun h1 => ?_)
      · conv => whnf
        refine ⟨[], rfl, ?_, True.intro⟩
        show DV.int .i64 (k : Int) = .int .i64 (idxOf p xs 0)
        rw [hidx, hst, h1]; rfl
      · conv => whnf
        intro z hz
        conv => whnf
        rw [wrap_small (by omega) (by omega)] at hz
        subst hz
        refine ⟨k + 1, [], ⟨by omega, ?_⟩, by omega, And.intro rfl (And.intro ?_ True.intro)⟩
        · rw [hidx, hst, h1]; rfl
        · repeat' (first | exact True.intro | exact rfl | refine And.intro ?_ ?_)
    · conv => whnf
      have hk' : k = xs.length := by simp at h_; omega
      refine ⟨[], rfl, ?_, True.intro⟩
      show DV.int .i64 (-1) = .int .i64 (idxOf p xs 0)
      rw [hidx, hk', List.drop_length]; rfl
def stCheck (d : Nat) (s : Sto) : Bool := !(s.list.any (badT d))
theorem c_anyT (d : Nat) (s : Sto) (hd : d ≤ 16) (hs : sOk d s) (H : List (List Blk)) : CallEq X H 32 [.d (.sl (s.list.map kNode)), .func (.func 33) [] []] (.d (.bool (s.list.any (badT d)))) [] := by
  have hl : s.list.length < 1000000 := by show 4 < 1000000; decide
  have hm : ∀ x ∈ s.list, nOk d x := fun x hx => by
    obtain ⟨ha, hb, hc, hd⟩ := hs
    simp only [Sto.list, List.mem_cons, List.not_mem_nil, or_false] at hx
    rcases hx with rfl | rfl | rfl | rfl <;> assumption
  rw [← idxOf_ge _ s.list 0 (Int.le_refl _)]
  have h1 := fun H => i_badT (badT d) s.list H hl (fun x hx T => c_badT d x hd (hm x hx) _)
  refine callEq_of_body X_ok rfl Try.func32 rfl ?_
  conv => whnf
  repeat' (first
    | (refine And.intro (fun h_ => ?_) (fun h_ => ?_) <;> (conv => whnf))
    | (refine ⟨_, _, h1 _, (by first | exact True.intro | exact And.intro rfl flat_nil), ?_⟩; conv => whnf)
    | (intro z_ hz_; conv => whnf)
    | (refine ⟨[], rfl, ?_, True.intro⟩; (conv => whnf); (first | done | (simp_all only [refP, Bool.not_true, Bool.not_false, Bool.true_and, Bool.false_and, Bool.and_true, Bool.and_false, Bool.true_or, Bool.false_or, Bool.or_true, Bool.or_false, Bool.not_not, Bool.not_eq_true', Bool.not_eq_false', if_true, if_false, Bool.false_eq_true, Bool.true_eq_false, List.length_map]; done)))
    | fail)
theorem c_check (d : Nat) (s : Sto) (hd : d ≤ 16) (hs : sOk d s) (H : List (List Blk)) : CallEq X H 15 [pSto s] (.d (.bool (stCheck d s))) [] := by
  have h1 := fun H => c_anyT d s hd hs H
  unfold stCheck
  refine callEq_of_bodyF X_ok false true (mo := []) (by kernel_rfl) Try.func15 rfl ?_
  conv => whnf
  refine ⟨rfl, Nat.le_refl 12, ?_⟩
  conv => whnf
  refine ⟨_, _, (h1 _).md _ _, True.intro, ?_⟩
  conv => whnf
  exact ⟨[], rfl, by (repeat' (first | exact True.intro | exact rfl | refine And.intro ?_ ?_))⟩
/-! ### versions -/
def newerB (s : Int) (x : Ver) : Bool := decide (x.stamp > s)
theorem c_new1 (x : Ver) (s : Int) (T1 : List Blk) (rest : List Blk) (H : List (List Blk)) : CallEq X (T1 :: (.box [.d (.int .i64 s)] :: rest) :: H) 65 [pVer x, .ptr 2 0 0] (.d (.bool (newerB s x))) [] := by
  unfold newerB
  refine callEq_of_body X_ok rfl Try.func65 rfl ?_
  conv => whnf
  repeat' (first
    | (refine And.intro (fun h_ => ?_) (fun h_ => ?_) <;> (conv => whnf))
    | (intro z_ hz_; conv => whnf)
    | (refine ⟨[], rfl, ?_, True.intro⟩; (conv => whnf); (first | done | (simp_all only [refP, Bool.not_true, Bool.not_false, Bool.true_and, Bool.false_and, Bool.and_true, Bool.and_false, Bool.true_or, Bool.false_or, Bool.or_true, Bool.or_false, Bool.not_not, Bool.not_eq_true', Bool.not_eq_false', if_true, if_false, Bool.false_eq_true, Bool.true_eq_false, List.length_map]; done)))
    | fail)
theorem i_new (p : Ver → Bool) (l0 i0 : Nat) (xs : List Ver) (H : List (List Blk)) (hlen : xs.length < 1000000) (hp : ∀ x, x ∈ xs → ∀ T, CallEq X (T :: H) 65 [pVer x, .ptr (l0 + 2) i0 0] (.d (.bool (p x))) []) :
    CallEq X H 64 [.d (.sl (xs.map cVer)), .func (.func 65) [] [.ptr (l0 + 1) i0 0]] (.d (.int .i64 (idxOf p xs 0))) [] := by
  refine callEq_of_body X_ok rfl Try.func64 rfl ?_
  conv => whnf
  refine loopV_of (fun k : Nat => ⟨[.d (.sl (xs.map cVer)), .func (.func 65) [] [.ptr (l0 + 1) i0 0], .any, .any, .any, .any, .any, .d (.int .i64 (xs.map cVer).length), .d (.int .i64 k), .any, .any, .any, .any, .any, .any, .any, .any, .any, .any], []⟩) (fun k => k ≤ xs.length ∧ idxOf p xs 0 = idxOf p (xs.drop k) k) (fun k => xs.length - k) 0 [] ⟨Nat.zero_le _, by simp⟩ ?_ ?_
  · refine And.intro rfl (And.intro ?_ True.intro)
    repeat' (first | exact True.intro | exact rfl | refine And.intro ?_ ?_)
  · rintro k ⟨hk, hidx⟩
    conv => whnf
    refine And.intro (fun h_ => ?_) (fun h_ => ?_)
    · conv => whnf
      have hk' : k < xs.length := by simpa using h_
      obtain ⟨x, hx⟩ : ∃ x, xs[k]? = some x := ⟨_, List.getElem?_eq_getElem hk'⟩
      have hst := idxOf_step (p := p) hx
      refine ⟨by omega, cVer x, by simp [hx], rfl, ?_⟩
      conv => whnf
      refine ⟨_, _, hp x (List.mem_of_getElem? hx) _, True.intro, ?_⟩
      conv => whnf
      refine And.intro (fun h1 => ?_) (fun h1 => ?_)
      · conv => whnf
        refine ⟨[], rfl, ?_, True.intro⟩
        show DV.int .i64 (k : Int) = .int .i64 (idxOf p xs 0)
        rw [hidx, hst, h1]; rfl
      · conv => whnf
        intro z hz
        conv => whnf
        rw [wrap_small (by omega) (by omega)] at hz
        subst hz
        refine ⟨k + 1, [], ⟨by omega, ?_⟩, by omega, And.intro rfl (And.intro ?_ True.intro)⟩
        · rw [hidx, hst, h1]; rfl
        · repeat' (first | exact True.intro | exact rfl | refine And.intro ?_ ?_)
    · conv => whnf
      have hk' : k = xs.length := by simp at h_; omega
      refine ⟨[], rfl, ?_, True.intro⟩
      show DV.int .i64 (-1) = .int .i64 (idxOf p xs 0)
      rw [hidx, hk', List.drop_length]; rfl
def behI (l : List Ver) (s : Int) : Int := idxOf (newerB s) l 0
def beh (l : List Ver) (s : Int) : Int := if behI l s < 0 then (l.map cVer).length else behI l s
theorem c_behind (l : List Ver) (s : Int) (hl : l.length < 1000000) (H : List (List Blk)) : CallEq X H 48 [.d (encVs l), .d (.int .i64 s)] (.d (.int .i64 (beh l s))) [] := by
  have h1 := fun T H => i_new (newerB s) 0 0 l ((.box [.d (.int .i64 s)] :: T) :: H) hl (fun x _ T' => c_new1 x s T' _ _)
  unfold beh
  change ∀ T H, CallEq X _ _ _ (.d (.int .i64 (behI l s))) _ at h1
  generalize behI l s = z at h1 ⊢
  by_cases hz : z < 0
  · rw [if_pos hz]
    refine callEq_of_body X_ok rfl Try.func48 rfl ?_
    conv => whnf
    repeat' (first
      | (refine And.intro (fun h_ => ?_) (fun h_ => ?_) <;> (conv => whnf))
      | (refine ⟨_, _, h1 _ _, (by first | exact True.intro | exact And.intro rfl flat_nil), ?_⟩; conv => whnf)
      | (intro z_ hz_; conv => whnf)
      | (refine ⟨[], rfl, ?_, True.intro⟩; (conv => whnf); (first | done | (first | ((repeat' (first | exact True.intro | exact rfl | refine And.intro ?_ ?_)); done) | (exfalso; simp only [decide_eq_true_eq, decide_eq_false_iff_not] at *; omega); done)))
      | fail)
  · rw [if_neg (by omega)]
    refine callEq_of_body X_ok rfl Try.func48 rfl ?_
    conv => whnf
    repeat' (first
      | (refine And.intro (fun h_ => ?_) (fun h_ => ?_) <;> (conv => whnf))
      | (refine ⟨_, _, h1 _ _, (by first | exact True.intro | exact And.intro rfl flat_nil), ?_⟩; conv => whnf)
      | (intro z_ hz_; conv => whnf)
      | (refine ⟨[], rfl, ?_, True.intro⟩; (conv => whnf); (first | done | (first | ((repeat' (first | exact True.intro | exact rfl | refine And.intro ?_ ?_)); done) | (exfalso; simp only [decide_eq_true_eq, decide_eq_false_iff_not] at *; omega); done)))
      | fail)
theorem idxOf_or (p : Ver → Bool) : ∀ (l : List Ver) (i : Int), 0 ≤ i → idxOf p l i = -1 ∨ (i ≤ idxOf p l i ∧ idxOf p l i < i + l.length)
  | [], i, _ => .inl rfl
  | x :: xs, i, h => by
    unfold idxOf
    cases p x
    rotate_left
    · exact .inr ⟨Int.le_refl _, by show i < i + ((x :: xs).length : Int); simp; omega⟩
    · change idxOf p xs (i + 1) = -1 ∨ (i ≤ idxOf p xs (i + 1) ∧ idxOf p xs (i + 1) < i + ((x :: xs).length : Int))
      rcases idxOf_or p xs (i + 1) (by omega) with h1 | h1
      · exact .inl h1
      · exact .inr ⟨by omega, by simp; omega⟩
theorem beh_le (l : List Ver) (s : Int) : 0 ≤ beh l s ∧ beh l s ≤ l.length := by
  unfold beh behI
  rcases idxOf_or (newerB s) l 0 (Int.le_refl _) with h | h
  · rw [h, if_pos (by decide)]; simp
  · rw [if_neg (by omega)]; omega
def readV (l : List Ver) (s : Int) : Option (List UInt8) :=
  if vsOk l then (if 0 < beh l s then (match l[(beh l s - 1).toNat]? with | some v => if v.gone then none else some v.val | none => none) else none) else none
theorem c_read (l : List Ver) (s : Int) (hl : l.length < 1000000) (hv : ∀ x ∈ l, x.val.length ≤ 1000000) (H : List (List Blk)) : CallEq X H 26 [.d (encVs l), .d (.int .i64 s)] (ansB (readV l s)) [] := by
  have h1 := fun H => d_vscheck l hl H
  have h2 := fun H => c_behind l s hl H
  have hb := beh_le l s
  have hr : readV l s = if vsOk l then (if 0 < beh l s then (match l[(beh l s - 1).toNat]? with | some v => if v.gone then none else some v.val | none => none) else none) else none := rfl
  generalize readV l s = R at hr ⊢
  generalize beh l s = n at hb h2 hr
  generalize vsOk l = C at h1 hr
  unfold ansB
  refine callEq_of_body X_ok rfl Try.func26 rfl ?_
  conv => whnf
  refine ⟨_, _, h1 _, True.intro, ?_⟩
  conv => whnf
  refine And.intro (fun q => ?_) (fun q => ?_) <;> (conv => whnf)
  · obtain rfl : C = false := by simpa using q
    subst hr
    exact ⟨[], rfl, by (repeat' (first | exact True.intro | exact rfl | refine And.intro ?_ ?_))⟩
  obtain rfl : C = true := by simpa using q
  refine ⟨_, _, h2 _, True.intro, ?_⟩
  conv => whnf
  refine And.intro (fun q1 => ?_) (fun q1 => ?_) <;> (conv => whnf)
  · have hn : 0 < n := by simpa using q1
    obtain ⟨v, hv1⟩ : ∃ x, l[(n - 1).toNat]? = some x := ⟨_, List.getElem?_eq_getElem (by omega)⟩
    rw [if_pos rfl, if_pos hn, hv1] at hr
    dsimp only at hr
    have hvl := hv v (List.mem_of_getElem? hv1)
    intro z hz
    conv => whnf
    rw [wrap_small (by omega) (by omega)] at hz
    subst hz
    have hg : (l.map cVer)[(n - 1).toNat]? = some (cVer v) := by rw [List.getElem?_map, hv1]; rfl
    have hll : (l.map cVer).length = l.length := List.length_map ..
    refine ⟨by omega, cVer v, hg, rfl, ?_⟩
    conv => whnf
    refine And.intro (fun q2 => ?_) (fun q2 => ?_) <;> (conv => whnf)
    · have hgone : v.gone = false := by simpa using q2
      rw [hgone] at hr
      subst hr
      intro z hz
      conv => whnf
      rw [wrap_small (by omega) (by omega)] at hz
      subst hz
      refine ⟨by omega, cVer v, hg, rfl, ?_⟩
      conv => whnf
      refine ⟨_, _, c103 v.val (by omega) _, True.intro, ?_⟩
      conv => whnf
      exact ⟨[], rfl, by (repeat' (first | exact True.intro | exact rfl | refine And.intro ?_ ?_))⟩
    · have hgone : v.gone = true := by simpa using q2
      rw [hgone] at hr
      subst hr
      exact ⟨[], rfl, by (repeat' (first | exact True.intro | exact rfl | refine And.intro ?_ ?_))⟩
  · have hn : ¬ 0 < n := by simpa using q1
    rw [if_pos rfl, if_neg hn] at hr
    subst hr
    exact ⟨[], rfl, by (repeat' (first | exact True.intro | exact rfl | refine And.intro ?_ ?_))⟩
def newV (l : List Ver) (s : Int) : Bool := vsOk l && decide (beh l s < ((l.map cVer).length : Int))
theorem c_newer (l : List Ver) (s : Int) (hl : l.length < 1000000) (H : List (List Blk)) : CallEq X H 31 [.d (encVs l), .d (.int .i64 s)] (.d (.bool (newV l s))) [] := by
  have h1 := fun H => d_vscheck l hl H
  have h2 := fun H => c_behind l s hl H
  unfold newV
  generalize vsOk l = C at h1 ⊢
  refine callEq_of_body X_ok rfl Try.func31 rfl ?_
  conv => whnf
  repeat' (first
    | (refine And.intro (fun h_ => ?_) (fun h_ => ?_) <;> (conv => whnf))
    | (refine ⟨_, _, h1 _, (by first | exact True.intro | exact And.intro rfl flat_nil), ?_⟩; conv => whnf)
    | (refine ⟨_, _, h2 _, (by first | exact True.intro | exact And.intro rfl flat_nil), ?_⟩; conv => whnf)
    | (intro z_ hz_; conv => whnf)
    | (refine ⟨[], rfl, ?_, True.intro⟩; (conv => whnf); (first | done | (simp_all only [refP, Bool.not_true, Bool.not_false, Bool.true_and, Bool.false_and, Bool.and_true, Bool.and_false, Bool.true_or, Bool.false_or, Bool.or_true, Bool.or_false, Bool.not_not, Bool.not_eq_true', Bool.not_eq_false', if_true, if_false, Bool.false_eq_true, Bool.true_eq_false, List.length_map]; done)))
    | fail)
theorem c_fits (t : Int) (H : List (List Blk)) : CallEq X H 25 [.d (.int .i64 t)] (.d (.bool (decide (t ≥ 0) && decide (t < 4)))) [] := by
  refine callEq_of_body X_ok rfl Try.func25 rfl ?_
  conv => whnf
  repeat' (first
    | (refine And.intro (fun h_ => ?_) (fun h_ => ?_) <;> (conv => whnf))
    | (intro z_ hz_; conv => whnf)
    | (refine ⟨[], rfl, ?_, True.intro⟩; (conv => whnf); (first | done | (simp_all only [refP, Bool.not_true, Bool.not_false, Bool.true_and, Bool.false_and, Bool.and_true, Bool.and_false, Bool.true_or, Bool.false_or, Bool.or_true, Bool.or_false, Bool.not_not, Bool.not_eq_true', Bool.not_eq_false', if_true, if_false, Bool.false_eq_true, Bool.true_eq_false, List.length_map]; done)))
    | fail)
end Go.Proofs.Ve

/- A store, and a span, that a law is handed, as plain data. -/
set_option maxRecDepth 100000
set_option linter.all false
namespace Go.Proofs.Ve
open Go Go.ChangeShapes Go.WideShapes Go.RowKit
theorem fit_int {k : IntKind} {ds : List DV} (h : FitR [.int k] ds) : ∃ n, pOf false ds = .d (.int k n) ∧ (Lit.int k n).wf = true := by
  obtain ⟨_, _, rfl, h1, h⟩ := h.cons
  cases h.done
  obtain ⟨a, rfl, hw⟩ := h1.int_inv
  exact ⟨a, rfl, hw⟩
theorem fit_pspan {ds : List DV} (h : FitR [.int .i64, .sl [.int .u8], .sl [.int .u8], .bool] ds) : ∃ x : Span, pOf true ds = pSpan x := by
  obtain ⟨_, _, rfl, h1, h⟩ := h.cons
  obtain ⟨_, _, rfl, h2, h⟩ := h.cons
  obtain ⟨_, _, rfl, h3, h⟩ := h.cons
  obtain ⟨_, _, rfl, h4, h⟩ := h.cons
  cases h.done
  obtain ⟨a, rfl, _⟩ := h1.int_inv
  obtain ⟨b, rfl⟩ := fit_bytes h2
  obtain ⟨c, rfl⟩ := fit_bytes h3
  obtain ⟨d, rfl⟩ := h4.bool_inv
  exact ⟨⟨a, b, c, d⟩, rfl⟩
section
variable {H : Type} {enc : TypeId × Value → H} {P : Program} {w : World} {spare : Nat → Bool} {held : Bool}
def stoD (s : Sto) : List DV := [encKs s.a.keys, encCs s.a.chains, encNs s.a.kids, encKs s.b.keys, encCs s.b.chains, encNs s.b.kids, encKs s.c.keys, encCs s.c.chains, encNs s.c.kids, encKs s.d.keys, encCs s.d.chains, encNs s.d.kids]
theorem sto_reads {tS tN : TypeId} {fs : Array Field} {f0 : Field} (hu : P.underlying tS = some (.struct fs)) (h0 : fs[0]? = some f0) (o0 : f0.offset = 0) (c0 : P.cellsOf f0.type = 12) (cS : P.cellsOf tS = 12)
    (hA : P.underlying f0.type = some (.array 4 tN)) (cN : P.cellsOf tN = 3)
    (hN : ∀ (fuel : Nat) (cs : List Value) (x : DataW H × List MemPlace), DataW.trod enc P w 0 spare held fuel tN cs = some x → ∃ n : Node, cs.length = 3 ∧ ∀ (j : Nat) y u, (cNode n)[j]? = some y → cs[j]? = some u → RD w (okW w) y u)
    (fuel : Nat) (cs : List Value) (x : DataW H × List MemPlace) (hx : DataW.trod enc P w 0 spare held fuel tS cs = some x) : ∃ s : Sto, cs.length = 12 ∧ ∀ (j : Nat) y u, (stoD s)[j]? = some y → cs[j]? = some u → RD w (okW w) y u := by
  obtain ⟨xs, n, rfl, _, hcl, hxl, hf⟩ := DataW.trod_struct hu hx
  have a0 := hf 0 f0 h0
  have hsz : 0 < fs.size := (Array.getElem?_eq_some_iff.1 h0).1
  rw [cS] at hcl
  rw [o0, c0, List.getElem?_eq_getElem (by omega)] at a0
  obtain ⟨u0, u1, u2, u3, u4, u5, u6, u7, u8, u9, u10, u11, rfl⟩ : ∃ u0 u1 u2 u3 u4 u5 u6 u7 u8 u9 u10 u11, cs = [u0, u1, u2, u3, u4, u5, u6, u7, u8, u9, u10, u11] := by
    match cs, hcl with
    | [u0, u1, u2, u3, u4, u5, u6, u7, u8, u9, u10, u11], _ => exact ⟨u0, u1, u2, u3, u4, u5, u6, u7, u8, u9, u10, u11, rfl⟩
  obtain ⟨m, _, hel⟩ := trod_arr hA a0
  rw [cN] at hel
  obtain ⟨y0, e0⟩ := hel 0 (by decide)
  obtain ⟨y1, e1⟩ := hel 1 (by decide)
  obtain ⟨y2, e2⟩ := hel 2 (by decide)
  obtain ⟨y3, e3⟩ := hel 3 (by decide)
  obtain ⟨n0, _, g0⟩ := hN _ _ _ e0
  obtain ⟨n1, _, g1⟩ := hN _ _ _ e1
  obtain ⟨n2, _, g2⟩ := hN _ _ _ e2
  obtain ⟨n3, _, g3⟩ := hN _ _ _ e3
  rw [cNode_eq] at g0 g1 g2 g3
  refine ⟨⟨n0, n1, n2, n3⟩, rfl, fun j y u hy hu => ?_⟩
  match j with
  | 0 => cases hy; cases hu; exact g0 0 _ _ rfl rfl
  | 1 => cases hy; cases hu; exact g0 1 _ _ rfl rfl
  | 2 => cases hy; cases hu; exact g0 2 _ _ rfl rfl
  | 3 => cases hy; cases hu; exact g1 0 _ _ rfl rfl
  | 4 => cases hy; cases hu; exact g1 1 _ _ rfl rfl
  | 5 => cases hy; cases hu; exact g1 2 _ _ rfl rfl
  | 6 => cases hy; cases hu; exact g2 0 _ _ rfl rfl
  | 7 => cases hy; cases hu; exact g2 1 _ _ rfl rfl
  | 8 => cases hy; cases hu; exact g2 2 _ _ rfl rfl
  | 9 => cases hy; cases hu; exact g3 0 _ _ rfl rfl
  | 10 => cases hy; cases hu; exact g3 1 _ _ rfl rfl
  | 11 => cases hy; cases hu; exact g3 2 _ _ rfl rfl
  | j + 12 => cases hy
end
theorem sto_arg {H : Type} {enc : TypeId × Value → H} {w : World} {spare : Nat → Bool} {held : Bool} {v : Value} {d : DataW H} {ps : List MemPlace}
    (hval : Value.okWide Try.prog w .any 0 29 v) (hd : DataW.Trod enc Try.prog w 0 spare held 29 v d ps) : ∃ s : Sto, RP (m0 w) (pSto s) v := by
  obtain ⟨fuel, hf⟩ := hd
  obtain ⟨s, e1, e2⟩ := sto_reads (P := Try.prog) Try.underlying29 rfl rfl (by kernel_rfl) (by kernel_rfl) (by kernel_rfl) (by kernel_rfl)
    (node_reads (P := Try.prog) Try.underlying26 rfl rfl rfl rfl rfl rfl (by kernel_rfl) (by kernel_rfl) (by kernel_rfl) (by kernel_rfl) (by kernel_rfl) (by kernel_rfl) (by kernel_rfl)) fuel _ _ hf
  refine ⟨s, ?_⟩
  obtain ⟨cs, hv, _⟩ := okWide_struct Try.underlying29 hval
  subst hv
  have e1 : cs.toList.length = 12 := e1
  have hc : s.cells = (stoD s).map .d := rfl
  refine .agg _ _ (by rw [hc]; simpa [stoD] using e1.symm) fun j p u hp hu => ?_
  have hu : (Value.agg cs).cells.toList[j]? = some u := by simpa [Value.cells] using hu
  rw [hc, List.getElem?_map] at hp
  obtain ⟨y, hy, rfl⟩ := Option.map_eq_some_iff.1 hp
  exact .d _ u (e2 j y u hy hu).m0
end Go.Proofs.Ve

/- Plain laws of trees: what is found is what stands in the list of all. -/
set_option linter.all false
namespace Go.Proofs.Ve
open Go
theorem cm_lt_trans {a b c : List UInt8} (h1 : cm a b < 0) (h2 : cm b c < 0) : cm a c < 0 := by
  have h := cm_trans a b c (by omega) (by omega)
  rcases Int.lt_or_eq_of_le h with h | h
  · exact h
  · exfalso
    have := (cm_eq a c).1 h
    subst this
    have := cm_flip a b
    omega
theorem cm_lt_of_lt_le {a b c : List UInt8} (h1 : cm a b < 0) (h2 : cm b c ≤ 0) : cm a c < 0 := by
  rcases Int.lt_or_eq_of_le h2 with h | h
  · exact cm_lt_trans h1 h
  · rw [← (cm_eq b c).1 h]; exact h1
def SortedKV (l : List KV) : Prop := l.Pairwise fun p q => cm p.1 q.1 < 0
theorem chkL_sorted : ∀ (l : List KV) (o : Option (List UInt8)), chkL o l = true → SortedKV l ∧ ∀ a, o = some a → ∀ p ∈ l, cm a p.1 < 0
  | [], o, _ => ⟨List.Pairwise.nil, fun a _ p hp => by cases hp⟩
  | p :: ps, o, h => by
    unfold chkL at h
    split at h
    · cases h
    · rename_i hb
      obtain ⟨h1, h2⟩ := chkL_sorted ps _ h
      have h3 := h2 p.1 rfl
      refine ⟨List.Pairwise.cons h3 h1, fun a ha q hq => ?_⟩
      have hap : cm a p.1 < 0 := by
        subst ha
        unfold keyBad at hb
        simp only [cmpB_eq] at hb
        simp at hb
        omega
      rcases List.mem_cons.1 hq with rfl | hq
      · exact hap
      · exact cm_lt_trans hap (h3 q hq)
/-! ### the place of a key -/
def SortedK (l : List (List UInt8)) : Prop := l.Pairwise fun a b => cm a b < 0
theorem sorted_get {l : List (List UInt8)} (h : SortedK l) {i j : Nat} {a b : List UInt8} (hij : i < j) (ha : l[i]? = some a) (hb : l[j]? = some b) : cm a b < 0 := by
  obtain ⟨h1, rfl⟩ := List.getElem?_eq_some_iff.1 ha
  obtain ⟨h2, rfl⟩ := List.getElem?_eq_some_iff.1 hb
  exact (List.pairwise_iff_getElem.1 h) i j h1 h2 hij
theorem bsF_spec {l : List (List UInt8)} (hs : SortedK l) (k : List UInt8) : ∀ (n i j : Nat), j - i ≤ n → i ≤ j → j ≤ l.length → (∀ t a, t < i → l[t]? = some a → cm a k < 0) → (∀ t a, j ≤ t → l[t]? = some a → 0 ≤ cm a k) →
    (∀ t a, t < bsF (fun x => cmpB x k) l n i j → l[t]? = some a → cm a k < 0) ∧ (∀ t a, bsF (fun x => cmpB x k) l n i j ≤ t → l[t]? = some a → 0 ≤ cm a k)
  | 0, i, j, h, hij, hj, h1, h2 => by
    have : i = j := by omega
    subst this
    exact ⟨h1, h2⟩
  | n + 1, i, j, h, hij, hj, h1, h2 => by
    unfold bsF
    split
    · rename_i hlt
      obtain ⟨y, hy⟩ : ∃ y, l[half i j]? = some y := ⟨_, List.getElem?_eq_getElem (by unfold half; omega)⟩
      have hg : l.getD (half i j) [] = y := by simp [List.getD, hy]
      rw [hg, cmpB_eq]
      split
      · rename_i hc
        refine bsF_spec hs k n _ j (by unfold half; omega) (by unfold half; omega) hj (fun t a ht ha => ?_) h2
        rcases Nat.lt_or_ge t (half i j) with h | h
        · exact cm_lt_trans (sorted_get hs h ha hy) hc
        · obtain rfl : t = half i j := by omega
          rw [hy] at ha; cases ha; exact hc
      · rename_i hc
        refine bsF_spec hs k n i _ (by unfold half; omega) (by unfold half; omega) (by unfold half; omega) h1 (fun t a ht ha => ?_)
        rcases Nat.lt_or_ge (half i j) t with h | h
        · have := sorted_get hs h hy ha
          have hf := cm_flip y k
          rcases Int.lt_or_le (cm a k) 0 with h' | h'
          · exfalso
            have := cm_lt_trans this h'
            omega
          · exact h'
        · obtain rfl : t = half i j := by omega
          rw [hy] at ha; cases ha; omega
    · have : i = j := by omega
      subst this
      exact ⟨h1, h2⟩
theorem bs_spec {l : List (List UInt8)} (hs : SortedK l) (k : List UInt8) : (∀ t a, t < bs l k → l[t]? = some a → cm a k < 0) ∧ (∀ t a, bs l k ≤ t → l[t]? = some a → 0 ≤ cm a k) :=
  bsF_spec hs k _ 0 _ (by omega) (Nat.zero_le _) (Nat.le_refl _) (fun t a h _ => by omega) (fun t a h ha => by have := (List.getElem?_eq_some_iff.1 ha).1; omega)
theorem bsIs_spec {l : List (List UInt8)} {k : List UInt8} : bsIs l k = true ↔ l[bs l k]? = some k := by
  unfold bsIs
  rw [cmpB_eq]
  constructor
  · intro h
    simp only [Bool.and_eq_true, decide_eq_true_eq, beq_iff_eq, List.length_map] at h
    obtain ⟨h1, h2⟩ := h
    obtain ⟨y, hy⟩ : ∃ y, l[bs l k]? = some y := ⟨_, List.getElem?_eq_getElem (by omega)⟩
    have hg : l.getD (bs l k) [] = y := by simp [List.getD, hy]
    rw [hg] at h2
    rw [hy, (cm_eq y k).1 h2]
  · intro h
    have hlt := (List.getElem?_eq_some_iff.1 h).1
    have hg : l.getD (bs l k) [] = k := by simp [List.getD, h]
    rw [hg, cm_self]
    simp only [List.length_map, Bool.and_eq_true, decide_eq_true_eq]
    exact ⟨by omega, rfl⟩
/-! ### a node's list, about a place -/
def sufD (d : Nat) (n : Node) (i : Nat) : List KV := (List.range' (i + 1) (n.keys.length - i)).flatMap (segD d n)
theorem allD_cut (d : Nat) (n : Node) (i : Nat) (hi : i ≤ n.keys.length) : allD (d + 1) n = preD d n i ++ (kidD d n i ++ (pairD n i ++ sufD d n i)) := by
  show (List.range (n.keys.length + 1)).flatMap (segD d n) = _
  have e : List.range (n.keys.length + 1) = List.range i ++ ([i] ++ List.range' (i + 1) (n.keys.length - i)) := by
    rw [List.range_eq_range', List.range_eq_range', show n.keys.length + 1 = i + (1 + (n.keys.length - i)) by omega, ← List.range'_append_1, ← List.range'_append_1]
    simp
  rw [e, List.flatMap_append, List.flatMap_append]
  simp [preD, sufD, segD]
/-! ### what stands about a place -/
theorem pairD_some {n : Node} {i : Nat} {k : List UInt8} {c : List Ver} (h1 : n.keys[i]? = some k) (h2 : n.chains[i]? = some c) : pairD n i = [(k, c)] := by unfold pairD; rw [h1, h2]
theorem pairD_end {n : Node} {i : Nat} (h : n.keys.length ≤ i) : pairD n i = [] := by unfold pairD; rw [List.getElem?_eq_none h]
theorem pairD_mem {n : Node} {i : Nat} {p : KV} (h : p ∈ pairD n i) : n.keys[i]? = some p.1 ∧ n.chains[i]? = some p.2 := by
  unfold pairD at h
  split at h
  · rename_i h1 h2
    rcases List.mem_singleton.1 h with rfl
    exact ⟨h1, h2⟩
  · cases h
theorem pairD_at {n : Node} (hc : n.chains.length = n.keys.length) {i : Nat} {k : List UInt8} (h : n.keys[i]? = some k) : ∃ c, n.chains[i]? = some c ∧ pairD n i = [(k, c)] := by
  have hi := (List.getElem?_eq_some_iff.1 h).1
  have h2 : n.chains[i]? = some (n.chains[i]'(by omega)) := List.getElem?_eq_getElem (by omega)
  exact ⟨_, h2, pairD_some h h2⟩
theorem sorted_cut {d : Nat} {n : Node} (hs : SortedKV (allD (d + 1) n)) {i : Nat} {k : List UInt8} {c : List Ver} (h : n.keys[i]? = some k) (h2 : n.chains[i]? = some c) :
    (∀ p ∈ preD d n i, cm p.1 k < 0) ∧ (∀ p ∈ kidD d n i, cm p.1 k < 0) ∧ (∀ p ∈ sufD d n i, cm k p.1 < 0) := by
  have hi := (List.getElem?_eq_some_iff.1 h).1
  unfold SortedKV at hs
  rw [allD_cut d n i (by omega), pairD_some h h2, List.pairwise_append, List.pairwise_append, List.pairwise_append] at hs
  obtain ⟨_, ⟨_, ⟨_, _, h3⟩, h4⟩, h5⟩ := hs
  exact ⟨fun p hp => h5 p hp (k, c) (by simp), fun p hp => h4 p hp (k, c) (by simp), fun p hp => h3 (k, c) (by simp) p hp⟩
theorem sorted_kid {d : Nat} {n : Node} (hs : SortedKV (allD (d + 1) n)) {i : Nat} (hi : i ≤ n.keys.length) : SortedKV (kidD d n i) := by
  unfold SortedKV at hs
  rw [allD_cut d n i hi, List.pairwise_append, List.pairwise_append] at hs
  exact hs.2.1.1
theorem pre_mem {d : Nat} {n : Node} {i j : Nat} (hij : i < j) {p : KV} (h : p ∈ segD d n i) : p ∈ preD d n j := by
  unfold preD
  rw [List.mem_flatMap]
  exact ⟨i, List.mem_range.2 hij, h⟩
theorem sorted_keys {d : Nat} {n : Node} (hc : n.chains.length = n.keys.length) (hs : SortedKV (allD (d + 1) n)) : SortedK n.keys := by
  unfold SortedK
  rw [List.pairwise_iff_getElem]
  intro i j hi hj hij
  have hgi : n.keys[i]? = some n.keys[i] := List.getElem?_eq_getElem hi
  have hgj : n.keys[j]? = some n.keys[j] := List.getElem?_eq_getElem hj
  obtain ⟨c, h1, h2⟩ := pairD_at hc hgi
  obtain ⟨c', h1', h2'⟩ := pairD_at hc hgj
  exact (sorted_cut hs hgj h1').1 (n.keys[i], c) (pre_mem hij (by unfold segD; rw [h2]; simp))
/-- about the place of a key: what stands ahead is less, what stands behind more -/
theorem about {d : Nat} {n : Node} (hc : n.chains.length = n.keys.length) (hs : SortedKV (allD (d + 1) n)) (k : List UInt8) :
    (∀ p ∈ preD d n (bs n.keys k), cm p.1 k < 0) ∧ (bsIs n.keys k = true → (∀ p ∈ kidD d n (bs n.keys k), cm p.1 k < 0) ∧ ∃ c, n.chains[bs n.keys k]? = some c ∧ pairD n (bs n.keys k) = [(k, c)]) ∧
    (bsIs n.keys k = false → ∀ p ∈ pairD n (bs n.keys k) ++ sufD d n (bs n.keys k), 0 < cm p.1 k) := by
  have hk := sorted_keys hc hs
  obtain ⟨b1, b2⟩ := bs_spec hk k
  have ble := bs_le n.keys k
  have bis := @bsIs_spec n.keys k
  generalize bs n.keys k = i at b1 b2 ble bis ⊢
  refine ⟨fun p hp => ?_, fun h => ?_, fun h p hp => ?_⟩
  · unfold preD at hp
    obtain ⟨t, ht, hp⟩ := List.mem_flatMap.1 hp
    have ht := List.mem_range.1 ht
    have hg : n.keys[t]? = some (n.keys[t]'(by omega)) := List.getElem?_eq_getElem (by omega)
    have hlt := b1 t _ ht hg
    obtain ⟨c, h1, h2⟩ := pairD_at hc hg
    unfold segD at hp
    rcases List.mem_append.1 hp with hp | hp
    · exact cm_lt_trans ((sorted_cut hs hg h1).2.1 p hp) hlt
    · obtain ⟨h3, _⟩ := pairD_mem hp
      rw [hg] at h3; rw [← Option.some.inj h3]; exact hlt
  · have hg := bis.1 h
    obtain ⟨c, h1, h2⟩ := pairD_at hc hg
    exact ⟨(sorted_cut hs hg h1).2.1, c, h1, h2⟩
  · have hlt : i < n.keys.length := by
      rcases Nat.lt_or_ge i n.keys.length with h' | h'
      · exact h'
      · exfalso
        rw [pairD_end h'] at hp
        unfold sufD at hp
        rw [show n.keys.length - i = 0 by omega] at hp
        cases hp
    have hg : n.keys[i]? = some n.keys[i] := List.getElem?_eq_getElem hlt
    have hge := b2 i _ (Nat.le_refl _) hg
    have hne : cm n.keys[i] k ≠ 0 := by
      intro h0
      rw [(cm_eq _ _).1 h0] at hg
      rw [bis.2 hg] at h; cases h
    obtain ⟨c, h1, h2⟩ := pairD_at hc hg
    rcases List.mem_append.1 hp with hp | hp
    · obtain ⟨h3, _⟩ := pairD_mem hp
      rw [hg] at h3; rw [← Option.some.inj h3]; omega
    · have h3 := (sorted_cut hs hg h1).2.2 p hp
      have f1 := cm_flip n.keys[i] k
      have f2 := cm_flip p.1 k
      have := cm_lt_trans (a := k) (b := n.keys[i]) (c := p.1) (by omega) h3
      omega
theorem find_none {l : List KV} {P : KV → Bool} (h : ∀ p ∈ l, P p = false) : l.find? P = none := by
  rw [List.find?_eq_none]; intro p hp; rw [h p hp]; exact fun h => nomatch h
/-- the entry of a key; the first that is not ahead of it -/
def eqP (k : List UInt8) (p : KV) : Bool := decide (cm p.1 k = 0)
def geP (k : List UInt8) (p : KV) : Bool := decide (0 ≤ cm p.1 k)
theorem eqP_lt {k : List UInt8} {p : KV} (h : cm p.1 k < 0) : eqP k p = false := by unfold eqP; simp; omega
theorem eqP_gt {k : List UInt8} {p : KV} (h : 0 < cm p.1 k) : eqP k p = false := by unfold eqP; simp; omega
theorem geP_lt {k : List UInt8} {p : KV} (h : cm p.1 k < 0) : geP k p = false := by unfold geP; simp; omega
theorem find_eq : ∀ (d : Nat) (n : Node) (least : Int) (k : List UInt8), nOk d n → deepN n least ≠ 0 → SortedKV (allD d n) → findN d n k = ((allD d n).find? (eqP k)).map (·.2)
  | 0, n, _, k, h, _, _ => h.elim
  | d + 1, n, least, k, hn, hd, hs => by
    obtain ⟨hc, h2, h3, h4⟩ := deep_parts hd
    obtain ⟨a1, a2, a3⟩ := about hc hs k
    have ble := bs_le n.keys k
    rw [allD_cut d n _ ble, List.find?_append, List.find?_append, find_none fun p hp => eqP_lt (a1 p hp)]
    show (if bsIs n.keys k then n.chains[bs n.keys k]? else match n.kids[bs n.keys k]? with | some x => findN d x k | none => none) = _
    cases hb : bsIs n.keys k with
    | true =>
      obtain ⟨c1, c, c2, c3⟩ := a2 hb
      rw [find_none fun p hp => eqP_lt (c1 p hp), c2, c3, if_pos rfl]
      simp [eqP, cm_self]
    | false =>
      rw [find_none (l := pairD n _ ++ sufD d n _) fun p hp => eqP_gt (a3 hb p hp), if_neg (by simp)]
      have hks := sorted_kid hs ble
      simp only [Option.none_or, Option.or_none]
      unfold kidD kidP at hks ⊢
      cases hx : n.kids[bs n.keys k]? with
      | some x =>
        rw [hx] at hks
        have hm := List.mem_of_getElem? hx
        rcases h4 with ⟨h4, _⟩ | ⟨_, _, h4⟩
        · rw [h4] at hm; cases hm
        · exact find_eq d x 1 k (nOk_kid hn x hm) (h4 x hm).2 hks
      | none => rfl
def orK (o : Option KV) (r : Option (List UInt8)) : Option (List UInt8) := match o with | some p => some p.1 | none => r
theorem next_eq : ∀ (d : Nat) (n : Node) (least : Int) (k : List UInt8) (o : Option (List UInt8)), nOk d n → deepN n least ≠ 0 → SortedKV (allD d n) → nextN d n k o = orK ((allD d n).find? (geP k)) o
  | 0, n, _, k, _, h, _, _ => h.elim
  | d + 1, n, least, k, o, hn, hd, hs => by
    obtain ⟨hc, h2, h3, h4⟩ := deep_parts hd
    obtain ⟨a1, a2, a3⟩ := about hc hs k
    have ble := bs_le n.keys k
    rw [allD_cut d n _ ble, List.find?_append, List.find?_append, find_none fun p hp => geP_lt (a1 p hp)]
    show (if bsIs n.keys k || leafN n then stepO n k o else match n.kids[bs n.keys k]? with | some x => nextN d x k (stepO n k o) | none => o) = _
    cases hb : bsIs n.keys k with
    | true =>
      obtain ⟨c1, c, c2, c3⟩ := a2 hb
      rw [find_none fun p hp => geP_lt (c1 p hp), c3, if_pos (by simp)]
      have hg := bsIs_spec.1 hb
      unfold stepO
      rw [hg]
      simp [geP, cm_self, orK]
    | false =>
      have hstep : stepO n k o = orK ((pairD n (bs n.keys k) ++ sufD d n (bs n.keys k)).find? (geP k)) o := by
        have a3 := a3 hb
        unfold stepO
        split
        · rename_i x hx
          obtain ⟨c, h1, h2⟩ := pairD_at hc hx
          rw [h2] at a3 ⊢
          have := a3 (x, c) (by simp)
          have hge : geP k (x, c) = true := by unfold geP; exact decide_eq_true (by omega)
          simp [hge, orK]
        · rename_i hx
          have hle := List.getElem?_eq_none_iff.1 hx
          rw [pairD_end hle]
          unfold sufD
          rw [show n.keys.length - bs n.keys k = 0 by omega]
          rfl
      have hks := sorted_kid hs ble
      simp only [Option.none_or, Bool.false_or]
      rcases h4 with ⟨h4, _⟩ | ⟨h4, _, h5⟩
      · have hl : leafN n = true := by unfold leafN; rw [h4]; rfl
        have hkid : kidD d n (bs n.keys k) = [] := by unfold kidD kidP; rw [h4]; rfl
        rw [if_pos hl, hstep, hkid]; simp
      · have hl : leafN n = false := by unfold leafN; rw [List.length_map, h4]; simp; omega
        obtain ⟨x, hx⟩ : ∃ x, n.kids[bs n.keys k]? = some x := ⟨_, List.getElem?_eq_getElem (by omega)⟩
        have hkid : kidD d n (bs n.keys k) = allD d x := by unfold kidD kidP; rw [hx]
        have hm := List.mem_of_getElem? hx
        rw [hl, hx, if_neg (by simp), hkid]
        rw [hkid] at hks
        show nextN d x k (stepO n k o) = _
        rw [next_eq d x 1 k _ (nOk_kid hn x hm) (h5 x hm).2 hks, hstep]
        cases (allD d x).find? (geP k) <;> rfl
/-! ### an index that is checked, as a list -/
theorem pairs_sorted (d : Nat) (n : Node) : SortedKV (pairsN d n) := by
  unfold pairsN
  split
  · rename_i h
    unfold checkN at h
    split at h
    · cases h
    · exact (chkL_sorted _ _ h).1
  · exact List.Pairwise.nil
theorem pairs_all {d : Nat} {n : Node} (h : checkN d n = true) : pairsN d n = allD d n := by unfold pairsN; rw [if_pos h]
theorem keysN_eq (d : Nat) (n : Node) : keysN d n = (pairsN d n).map (·.1) := by unfold keysN pairsN; split <;> rfl
theorem findA_eq {d : Nat} {n : Node} (hn : nOk d n) (k : List UInt8) : findA d n k = ((pairsN d n).find? (eqP k)).map (·.2) := by
  have hs := pairs_sorted d n
  unfold findA
  unfold pairsN at hs ⊢
  split
  · rename_i h
    rw [if_pos h] at hs
    exact find_eq d n 0 k hn (check_deep h) hs
  · rfl
theorem nextA_eq {d : Nat} {n : Node} (hn : nOk d n) (k : List UInt8) : nextA d n k = ((pairsN d n).find? (geP k)).map (·.1) := by
  have hs := pairs_sorted d n
  unfold nextA
  unfold pairsN at hs ⊢
  split
  · rename_i h
    rw [if_pos h] at hs
    rw [next_eq d n 0 k none hn (check_deep h) hs]
    cases (allD d n).find? (geP k) <;> rfl
  · rfl
theorem pairs_len {d : Nat} {n : Node} (hd : d ≤ 16) (hn : nOk d n) : (pairsN d n).length < 4294967296 := by
  unfold pairsN
  split
  · rename_i h
    exact check_len hd hn h
  · decide
theorem pairs_mem {d : Nat} {n : Node} (hn : nOk d n) : ∀ p ∈ pairsN d n, p.1.length ≤ 1000000 ∧ p.2.length < 100000 := by
  intro p hp
  unfold pairsN at hp
  split at hp
  · exact ⟨(allD_mem d n hn p hp).1, (allD_mem d n hn p hp).2.1⟩
  · cases hp
theorem sorted_inj {l : List KV} (hs : SortedKV l) {p q : KV} (hp : p ∈ l) (hq : q ∈ l) (h : p.1 = q.1) : p = q := by
  obtain ⟨i, hi⟩ := List.mem_iff_getElem?.1 hp
  obtain ⟨j, hj⟩ := List.mem_iff_getElem?.1 hq
  obtain ⟨hi', rfl⟩ := List.getElem?_eq_some_iff.1 hi
  obtain ⟨hj', rfl⟩ := List.getElem?_eq_some_iff.1 hj
  have hg := List.pairwise_iff_getElem.1 hs
  rcases Nat.lt_trichotomy i j with h1 | h1 | h1
  · have := hg i j hi' hj' h1
    rw [h, cm_self] at this; omega
  · subst h1; rfl
  · have := hg j i hj' hi' h1
    rw [h, cm_self] at this; omega
theorem find_self {l : List KV} (hs : SortedKV l) {p : KV} (hp : p ∈ l) : l.find? (eqP p.1) = some p := by
  cases h : l.find? (eqP p.1) with
  | none =>
    rw [List.find?_eq_none] at h
    exact absurd (by unfold eqP; rw [cm_self]; rfl) (h p hp)
  | some q =>
    have h1 := List.find?_some h
    have h2 := List.mem_of_find?_eq_some h
    unfold eqP at h1
    rw [sorted_inj hs hp h2 ((cm_eq _ _).1 (of_decide_eq_true h1)).symm]
theorem first_ge {l : List KV} (hs : SortedKV l) {k : List UInt8} {p : KV} (h : l.find? (geP k) = some p) : p ∈ l ∧ 0 ≤ cm p.1 k ∧ ∀ q ∈ l, 0 ≤ cm q.1 k → 0 ≤ cm q.1 p.1 := by
  refine ⟨List.mem_of_find?_eq_some h, of_decide_eq_true (show geP k p = true from List.find?_some h), fun q hq hk => ?_⟩
  obtain ⟨_, l1, l2, rfl, has⟩ := List.find?_eq_some_iff_append.1 h
  rcases List.mem_append.1 hq with hq | hq
  · have := has q hq
    unfold geP at this
    simp at this; omega
  · rcases List.mem_cons.1 hq with rfl | hq
    · rw [cm_self]; exact Int.le_refl _
    · have := (List.pairwise_append.1 hs).2.1
      rw [List.pairwise_cons] at this
      have := this.1 q hq
      have := cm_flip p.1 q.1
      omega
theorem finds_law {d : Nat} {n : Node} (hn : nOk d n) (k : List UInt8) :
    (nextA d n k = none ∧ findA d n k = none ∧ ∀ a ∈ keysN d n, cm a k < 0) ∨
    ∃ x, nextA d n k = some x ∧ 0 ≤ cm x k ∧ (findA d n k).isSome = decide (cm x k = 0) ∧ ∀ a ∈ keysN d n, 0 ≤ cm a k → 0 ≤ cm a x := by
  have hs := pairs_sorted d n
  rw [nextA_eq hn, findA_eq hn, keysN_eq]
  generalize pairsN d n = l at hs
  cases h : l.find? (geP k) with
  | none =>
    rw [List.find?_eq_none] at h
    have hlt : ∀ p ∈ l, cm p.1 k < 0 := fun p hp => by have := h p hp; unfold geP at this; simp at this; exact this
    refine .inl ⟨rfl, ?_, fun a ha => ?_⟩
    · rw [find_none fun p hp => eqP_lt (hlt p hp)]; rfl
    · obtain ⟨p, hp, rfl⟩ := List.mem_map.1 ha
      exact hlt p hp
  | some p =>
    obtain ⟨h1, h2, h3⟩ := first_ge hs h
    refine .inr ⟨p.1, rfl, h2, ?_, fun a ha => ?_⟩
    · by_cases h0 : cm p.1 k = 0
      · have := (cm_eq _ _).1 h0
        subst this
        rw [find_self hs h1, cm_self]; rfl
      · rw [decide_eq_false h0, find_none fun q hq => ?_]
        · rfl
        · unfold eqP
          apply decide_eq_false
          intro h4
          have h5 := h3 q hq (by omega)
          rw [(cm_eq _ _).1 h4] at h5
          have := cm_flip p.1 k
          omega
    · obtain ⟨q, hq, rfl⟩ := List.mem_map.1 ha
      exact h3 q hq
/-! ### keys one behind the other -/
theorem cm_snoc0 : ∀ a b : List UInt8, cm a (b ++ [0]) < 0 ↔ cm a b ≤ 0
  | [], [] => by decide
  | [], b :: bs => by rw [List.cons_append, cm_nc, cm_nc]; decide
  | x :: xs, [] => by
    rw [List.nil_append, cm_cc, cm_cn]
    have h : ¬ x < 0 := by rw [u8]; simp
    rw [if_neg h]
    split
    · decide
    · cases xs with
      | nil => rw [cm_nn]; decide
      | cons y ys => rw [cm_cn]; decide
  | x :: xs, b :: bs => by
    rw [List.cons_append, cm_cc, cm_cc]
    split
    · decide
    · split
      · decide
      · exact cm_snoc0 xs bs
theorem cm_nil_ge (a : List UInt8) : 0 ≤ cm a [] := by
  cases a with
  | nil => rw [cm_nn]; decide
  | cons => rw [cm_cn]; decide
theorem find_at {α : Type} {P : α → Bool} : ∀ (l : List α) (i : Nat), (∀ t x, t < i → l[t]? = some x → P x = false) → (∀ x, l[i]? = some x → P x = true) → i ≤ l.length → l.find? P = l[i]?
  | [], i, _, _, _ => by simp
  | x :: xs, 0, _, h2, _ => by rw [List.find?_cons_of_pos (h2 x rfl)]; rfl
  | x :: xs, i + 1, h1, h2, h3 => by
    rw [List.find?_cons_of_neg (by rw [h1 0 x (by omega) rfl]; exact fun h => nomatch h)]
    rw [find_at xs i (fun t y ht hy => h1 (t + 1) y (by omega) hy) h2 (by simpa using h3)]
    rfl
def atK (l : List (List UInt8)) : Nat → List UInt8
  | 0 => []
  | i + 1 => l.getD i [] ++ [0]
theorem order_next {d : Nat} {n : Node} (hn : nOk d n) {i : Nat} (hi : i ≤ (keysN d n).length) : nextA d n (atK (keysN d n) i) = (keysN d n)[i]? := by
  have hs := pairs_sorted d n
  rw [nextA_eq hn]
  rw [keysN_eq] at hi ⊢
  generalize pairsN d n = l at hs hi
  rw [List.length_map] at hi
  have hg := List.pairwise_iff_getElem.1 hs
  rw [List.getElem?_map, find_at l i ?_ ?_ hi]
  · intro t x ht hx
    obtain ⟨h1, rfl⟩ := List.getElem?_eq_some_iff.1 hx
    apply geP_lt
    cases i with
    | zero => omega
    | succ i =>
      show cm l[t].1 (((l.map (·.1)).getD i []) ++ [0]) < 0
      rw [cm_snoc0, List.getD_eq_getElem?_getD, List.getElem?_map, List.getElem?_eq_getElem (by omega)]
      show cm l[t].1 l[i].1 ≤ 0
      rcases Nat.lt_or_ge t i with h | h
      · have := hg t i (by omega) (by omega) h; omega
      · obtain rfl : t = i := by omega
        rw [cm_self]; exact Int.le_refl _
  · intro x hx
    obtain ⟨h1, rfl⟩ := List.getElem?_eq_some_iff.1 hx
    apply decide_eq_true
    cases i with
    | zero => exact cm_nil_ge _
    | succ i =>
      apply Int.not_lt.1
      show ¬ cm l[i + 1].1 (((l.map (·.1)).getD i []) ++ [0]) < 0
      rw [cm_snoc0, List.getD_eq_getElem?_getD, List.getElem?_map, List.getElem?_eq_getElem (by omega)]
      show ¬ cm l[i + 1].1 l[i].1 ≤ 0
      have := hg i (i + 1) (by omega) (by omega) (by omega)
      have := cm_flip l[i].1 l[i + 1].1
      omega
theorem keys_less {d : Nat} {n : Node} {i : Nat} {a b : List UInt8} (ha : (keysN d n)[i]? = some a) (hb : (keysN d n)[i + 1]? = some b) : cm a b < 0 := by
  have hs := pairs_sorted d n
  rw [keysN_eq, List.getElem?_map] at ha hb
  obtain ⟨p, hp, rfl⟩ := Option.map_eq_some_iff.1 ha
  obtain ⟨q, hq, rfl⟩ := Option.map_eq_some_iff.1 hb
  obtain ⟨h1, rfl⟩ := List.getElem?_eq_some_iff.1 hp
  obtain ⟨h2, rfl⟩ := List.getElem?_eq_some_iff.1 hq
  exact List.pairwise_iff_getElem.1 hs i (i + 1) h1 h2 (by omega)
/-! ### the document's answers -/
theorem findAt_spec : ∀ (l : List KV) (k : List UInt8) (i : Nat), (l.find? (eqP k) = none ∧ findAt l k i = -1) ∨ ∃ t p, l[t]? = some p ∧ l.find? (eqP k) = some p ∧ findAt l k i = ((i + t : Nat) : Int)
  | [], k, i => .inl ⟨rfl, rfl⟩
  | p :: ps, k, i => by
    unfold findAt
    rw [eqB_eq]
    by_cases h : cm p.1 k = 0
    · refine .inr ⟨0, p, rfl, ?_, by rw [decide_eq_true h]; rfl⟩
      rw [List.find?_cons_of_pos (by exact decide_eq_true h)]
    · rw [decide_eq_false h, List.find?_cons_of_neg (by unfold eqP; rw [decide_eq_false h]; exact fun h => nomatch h)]
      rcases findAt_spec ps k (i + 1) with ⟨h1, h2⟩ | ⟨t, q, h1, h2, h3⟩
      · exact .inl ⟨h1, h2⟩
      · refine .inr ⟨t + 1, q, h1, h2, ?_⟩
        show findAt ps k (i + 1) = _
        rw [h3]; omega
theorem nextAt_spec : ∀ (l : List KV) (k : List UInt8) (i : Nat), (l.find? (geP k) = none ∧ nextAt l k i = i + l.length) ∨ ∃ t p, l[t]? = some p ∧ l.find? (geP k) = some p ∧ nextAt l k i = i + t
  | [], k, i => .inl ⟨rfl, rfl⟩
  | p :: ps, k, i => by
    unfold nextAt
    rw [ltB_eq]
    by_cases h : cm p.1 k < 0
    · rw [decide_eq_true h, List.find?_cons_of_neg (by rw [geP_lt h]; exact fun h => nomatch h)]
      rcases nextAt_spec ps k (i + 1) with ⟨h1, h2⟩ | ⟨t, q, h1, h2, h3⟩
      · refine .inl ⟨h1, ?_⟩
        show nextAt ps k (i + 1) = _
        rw [h2, List.length_cons]; omega
      · refine .inr ⟨t + 1, q, h1, h2, ?_⟩
        show nextAt ps k (i + 1) = _
        rw [h3]; omega
    · rw [decide_eq_false h]
      refine .inr ⟨0, p, rfl, ?_, rfl⟩
      rw [List.find?_cons_of_pos (by exact decide_eq_true (Int.not_lt.1 h))]
theorem badV_self (x : Ver) : badV x x = false := by unfold badV; rw [eqB_eq, cm_self]; simp
theorem sameF_self {α : Type} {bad : α → α → Bool} (h : ∀ x, bad x x = false) : ∀ l : List α, sameF bad l l = true
  | [] => rfl
  | x :: xs => by unfold sameF; rw [h x]; exact sameF_self h xs
theorem sameVs_self (l : List Ver) : sameVs l l = true := by unfold sameVs; rw [sameF_self badV_self]; simp
theorem badP_self (p : KV) : badP p p = false := by unfold badP; rw [eqB_eq, cm_self, sameVs_self]; rfl
theorem sameKV_self (l : List KV) : sameKV l l = true := by unfold sameKV; rw [sameF_self badP_self]; simp
theorem lawPairs_eq {d : Nat} {n : Node} (hn : nOk d n) : lawPairs d n = pairsN d n := by
  unfold lawPairs
  rw [keysN_eq, List.map_map]
  have : ∀ p ∈ pairsN d n, ((fun k => (k, (findA d n k).getD [])) ∘ (·.1)) p = p := fun p hp => by
    show (p.1, (findA d n p.1).getD []) = p
    rw [findA_eq hn, find_self (pairs_sorted d n) hp]; rfl
  rw [List.map_congr_left this]
  exact List.map_id' _
/-! ### how many -/
theorem flat_ge {α : Type} {f : Nat → List α} {c : Nat} : ∀ (m : Nat), (∀ i, i < m → c ≤ (f i).length) → m * c ≤ ((List.range m).flatMap f).length
  | 0, _ => by simp
  | m + 1, h => by
    rw [List.range_succ, List.flatMap_append, List.length_append, Nat.succ_mul]
    have h1 := flat_ge m (fun i hi => h i (by omega))
    have h2 := h m (by omega)
    simpa using Nat.add_le_add h1 h2
theorem bounds : ∀ (d : Nat) (n : Node) (least : Int), nOk d n → deepN n least ≠ 0 → ∃ e : Nat, deepN n least = ((e + 1 : Nat) : Int) ∧ (allD d n).length + 1 ≤ 4 ^ (e + 1) ∧ (1 ≤ n.keys.length → 2 ^ (e + 1) ≤ (allD d n).length + 1) ∧ (n.keys.length = 0 → e = 0 ∧ (allD d n).length = 0)
  | 0, n, _, h, _ => h.elim
  | d + 1, n, least, hn, hd => by
    obtain ⟨hc, h2, h3, h4⟩ := deep_parts hd
    have hkid : ∃ e : Nat, deepN n least = ((e + 1 : Nat) : Int) ∧ (n.keys.length = 0 → e = 0) ∧ ∀ i, i ≤ n.keys.length → (kidD d n i).length + 1 ≤ 4 ^ e ∧ 2 ^ e ≤ (kidD d n i).length + 1 := by
      rcases h4 with ⟨h4, h5⟩ | ⟨h4, h5, h6⟩
      · refine ⟨0, h5, fun _ => rfl, fun i _ => ?_⟩
        have : kidD d n i = [] := by unfold kidD kidP; rw [h4]; rfl
        rw [this]; decide
      · obtain ⟨x, hx⟩ : ∃ x, n.kids[0]? = some x := ⟨_, List.getElem?_eq_getElem (by omega)⟩
        have hm := List.mem_of_getElem? hx
        obtain ⟨e, he, _⟩ := bounds d x 1 (nOk_kid hn x hm) (h6 x hm).2
        refine ⟨e + 1, ?_, fun h => absurd h h5, fun i hi => ?_⟩
        · have := (h6 x hm).1; omega
        · obtain ⟨y, hy⟩ : ∃ y, n.kids[i]? = some y := ⟨_, List.getElem?_eq_getElem (by omega)⟩
          have hm' := List.mem_of_getElem? hy
          obtain ⟨e', he', b1, b2, _⟩ := bounds d y 1 (nOk_kid hn y hm') (h6 y hm').2
          have hee : e' = e := by have := (h6 x hm).1; have := (h6 y hm').1; omega
          subst hee
          have : kidD d n i = allD d y := by unfold kidD kidP; rw [hy]
          rw [this]
          refine ⟨b1, b2 ?_⟩
          have := (deep_parts (h6 y hm').2).2.2.1
          omega
    obtain ⟨e, he, h0, hk⟩ := hkid
    have hpair : ∀ i, i < n.keys.length → (pairD n i).length = 1 := fun i hi => by
      obtain ⟨c, _, h⟩ := pairD_at hc (List.getElem?_eq_getElem hi)
      rw [h]; rfl
    have hlast : pairD n n.keys.length = [] := pairD_end (Nat.le_refl _)
    have hlen : (allD (d + 1) n).length = ((List.range n.keys.length).flatMap (segD d n)).length + (kidD d n n.keys.length).length := by
      show ((List.range (n.keys.length + 1)).flatMap (segD d n)).length = _
      rw [List.range_succ, List.flatMap_append, List.length_append]
      simp [segD, hlast]
    have hA := flat_len (f := segD d n) (c := 4 ^ e) n.keys.length (fun i hi => by
      have := (hk i (by omega)).1; have := hpair i hi; unfold segD; rw [List.length_append]; omega)
    have hB := flat_ge (f := segD d n) (c := 2 ^ e) n.keys.length (fun i hi => by
      have := (hk i (by omega)).2; have := hpair i hi; unfold segD; rw [List.length_append]; omega)
    obtain ⟨hl1, hl2⟩ := hk n.keys.length (Nat.le_refl _)
    refine ⟨e, he, ?_, fun h => ?_, fun h => ?_⟩
    · have : n.keys.length * 4 ^ e ≤ 3 * 4 ^ e := Nat.mul_le_mul_right _ h2
      rw [Nat.pow_succ]; omega
    · have : 1 * 2 ^ e ≤ n.keys.length * 2 ^ e := Nat.mul_le_mul_right _ h
      rw [Nat.pow_succ]; omega
    · have h0 := h0 h
      subst h0
      rw [h] at hlen hl1 hA
      refine ⟨rfl, ?_⟩
      rw [hlen]
      simp at hl1 hA ⊢
      omega
end Go.Proofs.Ve

/- Stores: the next key, of a row that is given; a span's keys. -/
set_option maxRecDepth 100000
set_option maxHeartbeats 8000000
set_option linter.all false
namespace Go.Proofs.Ve
open Go
theorem d_nextG (d : Nat) (n : Node) (k : List UInt8) (hd : d ≤ 16) (hn : nOk d n) (H : List (List Blk)) : CallEqG X H 50 [⟨5, 1, rowB k⟩] [pNode n, .row 0 0 k.length] [none] (ansB (nextA d n k)) [] := by
  have hkl : (rowB k).length = k.length := by unfold rowB; exact List.length_map ..
  have hchk := fun H => d_check d n (by omega) hn H
  have hdeep : checkN d n = true → deepN n 0 ≠ 0 := fun h h' => by unfold checkN at h; rw [if_pos (by simp [h'])] at h; cases h
  have heq : nextA d n k = if checkN d n then nextN d n k none else none := rfl
  generalize nextA d n k = R at heq ⊢
  generalize checkN d n = C at hchk hdeep heq
  unfold ansB
  refine callEqG_of_body X_ok rfl Try.func50 rfl ?_
  conv => whnf
  refine ⟨_, _, hchk _, True.intro, ?_⟩
  conv => whnf
  refine And.intro (fun q => ?_) (fun q => ?_) <;> (conv => whnf)
  · obtain rfl : C = false := by simpa using q
    obtain rfl : R = none := by simpa using heq
    exact ⟨[], rfl, by (repeat' (first | exact True.intro | exact rfl | refine And.intro ?_ ?_))⟩
  · obtain rfl : C = true := by simpa using q
    have heq : R = nextN d n k none := by simpa using heq
    refine loopV_of (fun i : Nat × Node × Option (List UInt8) => ⟨[.any, .row 0 0 k.length, .ptr 0 1 0, .any, .d (encB (i.2.2.getD [])), .d (.bool i.2.2.isSome), .any, .any, .any, .any, .any, .any, .any, .any, .any, .any, .any, .any, .any, .any, .any, .any, .any, .any, .any, .any, .any, .any, .any, .any, .any, .any, .any, .any, .any, .any, .any, .any, .any, .any], [.row 5 1 (rowB k), bNode i.2.1]⟩)
      (fun i => nOk i.1 i.2.1 ∧ (∃ l, deepN i.2.1 l ≠ 0) ∧ (i.2.2.getD []).length ≤ 1000000 ∧ R = nextN i.1 i.2.1 k i.2.2) (fun i => i.1) (d, n, none) [0, 1] ⟨hn, ⟨0, hdeep rfl⟩, by simp, heq⟩ ?_ ?_
    · refine And.intro rfl (And.intro ?_ ?_)
      all_goals (repeat' (first | exact True.intro | exact rfl | refine And.intro ?_ ?_))
    · rintro ⟨e, m, o⟩ ⟨hm, ⟨least, hl⟩, ho, hI⟩
      dsimp only at hm hl hI ho
      obtain ⟨e, rfl⟩ := nOk_pos hm
      have hp := fun H => d_place m k (by have := nOk_keys hm; omega) H
      have hp : ∀ H, CallEq X H 37 [pNode m, .d (.sl ((rowB k).take k.length))] (.tuple [.d (.int .i64 (bs m.keys k)), .d (.bool (bsIs m.keys k))]) [] := fun H => by
        rw [List.take_of_length_le (Nat.le_of_eq hkl)]; exact hp H
      have hlf := fun H => d_leaf m H
      obtain ⟨p1, p2, p3, p4⟩ := deep_parts hl
      have hle := bs_le m.keys k
      have hlt : bsIs m.keys k = true → bs m.keys k < m.keys.length := bsIs_lt
      have hso : stepO m k o = match m.keys[bs m.keys k]? with | some x => some x | none => o := rfl
      have ho' : ((stepO m k o).getD []).length ≤ 1000000 := by
        rw [hso]
        split
        · rename_i x hx; exact nOk_key hm x (List.mem_of_getElem? hx)
        · exact ho
      unfold nextN at hI
      generalize stepO m k o = o' at hso hI ho'
      generalize bs m.keys k = i at hp hle hlt hI hso
      generalize bsIs m.keys k = is at hp hlt hI
      have hleaf : leafN m = true → m.kids = [] := fun h => by unfold leafN at h; simpa using h
      have hno : leafN m = false → m.kids ≠ [] := fun h h' => by unfold leafN at h; rw [h'] at h; cases h
      generalize leafN m = lf at hlf hleaf hno hI
      have hcl := fun H => c103 (o'.getD []) (by omega) H
      conv => whnf
      refine ⟨_, _, hp _, And.intro rfl flat_nil, ?_⟩
      conv => whnf
      have kid : is = false → lf = false → ∃ x, m.kids[i]? = some x ∧ nOk e x ∧ deepN x 1 ≠ 0 ∧ R = nextN e x k o' := fun h1 h2 => by
        rcases p4 with ⟨p4, _⟩ | ⟨p4, p5, p6⟩
        · exact absurd p4 (hno h2)
        obtain ⟨x, hx⟩ : ∃ y, m.kids[i]? = some y := ⟨_, List.getElem?_eq_getElem (by omega)⟩
        rw [hx, h1, h2] at hI
        have hmx := List.mem_of_getElem? hx
        exact ⟨x, hx, nOk_kid hm x hmx, (p6 x hmx).2, hI⟩
      have ends : (is || lf) = true → R = o' := fun h => by rw [hI, if_pos h]
      have key : ∀ {x : List UInt8}, m.keys[i]? = some x → (m.keys.map fun k => [encB k])[((i : Nat) : Int).toNat]? = some [encB x] := fun h => by rw [Int.toNat_natCast, List.getElem?_map, h]; rfl
      refine And.intro (fun q => ?_) (fun q => ?_) <;> (conv => whnf)
      · have q' : i < m.keys.length := by simpa using q
        obtain ⟨x, hx⟩ : ∃ y, m.keys[i]? = some y := ⟨_, List.getElem?_eq_getElem q'⟩
        obtain rfl : o' = some x := by rw [hso, hx]
        refine ⟨by omega, [encB x], key hx, rfl, ?_⟩
        conv => whnf
        refine And.intro (fun q1 => ?_) (fun q1 => ?_) <;> (conv => whnf)
        rotate_left
        · refine ⟨_, _, hcl _, True.intro, ?_⟩
          conv => whnf
          refine ⟨[], rfl, ?_⟩
          rw [ends (by simp [q1])]
          (repeat' (first | exact True.intro | exact rfl | refine And.intro ?_ ?_))
        · refine ⟨_, _, hlf _, True.intro, ?_⟩
          conv => whnf
          refine And.intro (fun q2 => ?_) (fun q2 => ?_) <;> (conv => whnf)
          · refine ⟨_, _, hcl _, True.intro, ?_⟩
            conv => whnf
            refine ⟨[], rfl, ?_⟩
            rw [ends (by simp [q2])]
            (repeat' (first | exact True.intro | exact rfl | refine And.intro ?_ ?_))
          · obtain ⟨y, hy, k1, k2, k3⟩ := kid (by simpa using q1) (by simpa using q2)
            refine ⟨by omega, [encKs y.keys, encCs y.chains, encNs y.kids], by show (m.kids.map cNode)[((i : Nat) : Int).toNat]? = _; rw [Int.toNat_natCast, List.getElem?_map, hy, Option.map_some, cNode_eq], rfl, ?_⟩
            conv => whnf
            refine ⟨(e, y, some x), [0, 1], ⟨k1, ⟨1, k2⟩, ho', k3⟩, by show e < e + 1; omega, And.intro rfl (And.intro ?_ ?_)⟩
            all_goals (repeat' (first | exact True.intro | exact rfl | refine And.intro ?_ ?_))
      · have q' : ¬ i < m.keys.length := by simpa using q
        have hnone : m.keys[i]? = none := List.getElem?_eq_none (by omega)
        obtain rfl : o' = o := by rw [hso, hnone]
        refine And.intro (fun q1 => ?_) (fun q1 => ?_) <;> (conv => whnf)
        rotate_left
        · exact absurd (hlt q1) q'
        · refine ⟨_, _, hlf _, True.intro, ?_⟩
          conv => whnf
          refine And.intro (fun q2 => ?_) (fun q2 => ?_) <;> (conv => whnf)
          · refine ⟨_, _, hcl _, True.intro, ?_⟩
            conv => whnf
            refine ⟨[], rfl, ?_⟩
            rw [ends (by simp [q2])]
            (repeat' (first | exact True.intro | exact rfl | refine And.intro ?_ ?_))
          · obtain ⟨y, hy, k1, k2, k3⟩ := kid (by simpa using q1) (by simpa using q2)
            refine ⟨by omega, [encKs y.keys, encCs y.chains, encNs y.kids], by show (m.kids.map cNode)[((i : Nat) : Int).toNat]? = _; rw [Int.toNat_natCast, List.getElem?_map, hy, Option.map_some, cNode_eq], rfl, ?_⟩
            conv => whnf
            refine ⟨(e, y, o'), [0, 1], ⟨k1, ⟨1, k2⟩, ho', k3⟩, by show e < e + 1; omega, And.intro rfl (And.intro ?_ ?_)⟩
            all_goals (repeat' (first | exact True.intro | exact rfl | refine And.intro ?_ ?_))
end Go.Proofs.Ve
