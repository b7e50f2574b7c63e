/- TreeFinds, part 5 of 5. WHAT IS PROVED: TreeFinds: whatever the input, the law returns true, and the input reads as it did. No condition. -/
import Derived.Test.YtingjgfoihjelaaRows
import Derived.WalkKit
import Derived.ProofKit
import Derived.OpenShut
import Derived.ShutString
import Derived.ChangeOld
import Derived.Below
import Derived.SizedLaws
import Derived.Carry
import Derived.Test.YtingjgfoihjelaaTreeFindsJ1
import Derived.Test.YtingjgfoihjelaaTreeFindsJ2
import Derived.Test.YtingjgfoihjelaaTreeFindsJ3
import Derived.Test.YtingjgfoihjelaaTreeFindsJ4
/- What awake's calls come to. -/
set_option maxRecDepth 100000
set_option maxHeartbeats 8000000
set_option linter.all false
namespace Go.Proofs.Ve
open Go
def cmB (l : List (List UInt8)) (k : List UInt8) : Nat := bsF (fun x => cm x k) l l.length 0 l.length
theorem bs_cm (l : List (List UInt8)) (k : List UInt8) : bs l k = cmB l k := by
  unfold bs cmB
  congr 1
  funext x; exact cmpB_eq x k
def cmIs (l : List (List UInt8)) (k : List UInt8) : Bool := decide (cmB l k < l.length) && decide (cm (l.getD (cmB l k) []) k = 0)
theorem bsIs_cm (l : List (List UInt8)) (k : List UInt8) : bsIs l k = cmIs l k := by
  unfold bsIs cmIs
  rw [bs_cm, cmpB_eq, List.length_map]
  congr 1
  · rw [Bool.eq_iff_iff]; simp
theorem keyBad_cm (o : Option (List UInt8)) (p : KV) : keyBad o p = ((decide ((p.1.length : Int) > 16) || ((p.2.length : Int) == 0)) || !vsOk p.2 || (match o with | none => false | some a => decide (cm a p.1 ≥ 0))) := by
  unfold keyBad
  cases o with
  | none => rfl
  | some a => simp only [cmpB_eq]
def vA : Ver := ⟨1, false, []⟩
def vB : Ver := ⟨2, false, []⟩
def nA : Node := .mk [[98]] [[vA]] []
def nB : Node := .mk [[97], [98]] [[vB], [vA]] []
theorem ok0 : nOk 1 (.mk [] [] []) := smallN_ok 1 _ (by decide)
theorem okA : nOk 1 nA := smallN_ok 1 _ (by decide)
theorem okB : nOk 1 nB := smallN_ok 1 _ (by decide)
theorem chk0 : checkN 1 (.mk [] [] []) = true := by decide
theorem chkA : checkN 1 nA = true := by
  unfold checkN
  rw [if_neg (by decide)]
  show chkL none [([98], [vA])] = true
  simp only [chkL, keyBad_cm]
  decide
theorem chkB : checkN 1 nB = true := by
  unfold checkN
  rw [if_neg (by decide)]
  show chkL none [([97], [vB]), ([98], [vA])] = true
  simp only [chkL, keyBad_cm]
  decide
theorem d_one (z : Int) (H : List (List Blk)) : CallEq X H 34 [.d (.int .i64 z)] (.d (encVs [⟨z, false, []⟩])) [] := by
  refine callEq_of_body X_ok rfl Try.func34 rfl ?_
  conv => whnf
  repeat' (first
    | (refine And.intro (fun h_ => ?_) (fun h_ => ?_) <;> (conv => whnf))
    | (intro z_ hz_; conv => whnf)
    | (refine ⟨[], rfl, ?_, True.intro⟩; (conv => whnf); (first | done | ((repeat' (first | exact True.intro | exact rfl | refine And.intro ?_ ?_)); done)))
    | fail)
theorem a_put1 (H : List (List Blk)) : CallEq X H 28 [pNode (.mk [] [] []), .d (encB [98]), .d (encVs [vA])] (.tuple [.agg [.row 0 0 1, .row 0 1 1, .row 0 2 0], .d (.int .i64 0)]) [⟨27, 1, rowK [[98]]⟩, ⟨32, 1, rowC [[vA]]⟩, ⟨26, 3, []⟩] := by
  have h := d_PutL [] [] [98] [vA] ok0 rfl (by decide) (by decide) (by decide) (fun x h => by simp [vA] at h; subst h; decide) (by unfold putOk; rw [chk0]; decide) (by rw [bsIs_cm]; decide) H
  unfold putRK putRC at h
  rw [bs_cm, show cmB [] [98] = 0 by decide] at h
  exact h
theorem a_put2 (H : List (List Blk)) : CallEq X H 28 [pNode nA, .d (encB [97]), .d (encVs [vB])] (.tuple [.agg [.row 0 0 2, .row 0 1 2, .row 0 2 0], .d (.int .i64 0)]) [⟨27, 1, rowK [[97], [98]]⟩, ⟨32, 1, rowC [[vB], [vA]]⟩, ⟨26, 3, []⟩] := by
  have h := d_PutL [[98]] [[vA]] [97] [vB] okA rfl (by decide) (by decide) (by decide) (fun x h => by simp [vB] at h; subst h; decide) (by unfold putOk; rw [show checkN 1 (.mk [[98]] [[vA]] []) = true from chkA]; decide) (by rw [bsIs_cm]; decide) H
  unfold putRK putRC at h
  rw [bs_cm, show cmB [[98]] [97] = 0 by decide] at h
  exact h
theorem a_keys (H : List (List Blk)) : CallEq X H 35 [pNode nB] (.d (encKs [[97], [98]])) [] := by
  have h := d_keys 1 nB (by decide) okB H
  unfold keysN at h
  rw [if_pos chkB] at h
  exact h
theorem a_find (H : List (List Blk)) : CallEq X H 15 [pNode nB, .d (encB [98])] (.tuple [.d (encVs [vA]), .d (.bool true)]) [] := by
  have h := d_find 1 nB [98] (by decide) okB H
  have e : findA 1 nB [98] = some [vA] := by
    unfold findA
    rw [if_pos chkB]
    unfold findN
    rw [bs_cm, bsIs_cm]
    rw [if_pos (by decide), show cmB nB.keys [98] = 1 by decide]; rfl
  rw [e] at h
  exact h
theorem a_next1 (H : List (List Blk)) : CallEq X H 17 [pNode nB, .d (encB [97, 97])] (.tuple [.d (encB [98]), .d (.bool true)]) [] := by
  have h := d_next 1 nB [97, 97] (by decide) okB H
  have e : nextA 1 nB [97, 97] = some [98] := by
    unfold nextA
    rw [if_pos chkB]
    unfold nextN stepO
    rw [bs_cm, show cmB nB.keys [97, 97] = 1 by decide, show leafN nB = true by decide, Bool.or_true]; rfl
  rw [e] at h
  exact h
theorem a_next2 (H : List (List Blk)) : CallEq X H 17 [pNode nB, .d (encB [99])] (.tuple [.d (encB []), .d (.bool false)]) [] := by
  have h := d_next 1 nB [99] (by decide) okB H
  have e : nextA 1 nB [99] = none := by
    unfold nextA
    rw [if_pos chkB]
    unfold nextN stepO
    rw [bs_cm, show cmB nB.keys [99] = 2 by decide, show leafN nB = true by decide, Bool.or_true]; rfl
  rw [e] at h
  exact h
theorem a_del1 (H : List (List Blk)) : CallEq X H 29 [pNode nB, .d (encB [97])] (.tuple [.agg [.row 0 0 1, .row 0 1 1, .row 0 2 0], .d (.int .i64 0)]) [⟨27, 1, [[encB [98]], [.sl []]]⟩, ⟨32, 1, [[encVs [vA]], [.sl []]]⟩, ⟨26, 3, []⟩] := by
  have h := d_DeleteL [[97], [98]] [[vB], [vA]] [97] okB rfl (by decide) (by decide) chkB (by rw [bsIs_cm]; decide) H
  rw [bs_cm, show cmB [[97], [98]] [97] = 0 by decide] at h
  exact h
theorem a_del2 (H : List (List Blk)) : CallEq X H 29 [pNode nA, .d (encB [97])] (.tuple [.agg [.row 0 0 1, .row 0 1 1, .row 0 2 0], .d (.int .i64 61)]) [⟨27, 1, rowK [[98]]⟩, ⟨32, 1, rowC [[vA]]⟩, ⟨26, 3, []⟩] := by
  refine d_DeleteN [[98]] [[vA]] [97] okA chkA ?_ H
  unfold findA
  rw [if_pos (show checkN 1 (.mk [[98]] [[vA]] []) = true from chkA)]
  unfold findN
  rw [bs_cm, bsIs_cm]
  rw [if_neg (by decide)]
  rfl
theorem a_put3 (H : List (List Blk)) : CallEq X H 28 [pNode nB, .d (encB (List.replicate 17 0)), .d (encVs [vA])] (.tuple [.agg [.row 0 0 2, .row 0 1 2, .row 0 2 0], .d (.int .i64 1)]) [⟨27, 1, rowK [[97], [98]]⟩, ⟨32, 1, rowC [[vB], [vA]]⟩, ⟨26, 3, []⟩] :=
  d_PutE [[97], [98]] [[vB], [vA]] (List.replicate 17 0) [vA] okB (by decide) (by unfold putOk; rw [show checkN 1 (.mk [[97], [98]] [[vB], [vA]] []) = true from chkB]; decide) H
theorem a_put4 (H : List (List Blk)) : CallEq X H 28 [pNode nB, .d (encB [99]), .d (encVs [])] (.tuple [.agg [.row 0 0 2, .row 0 1 2, .row 0 2 0], .d (.int .i64 1)]) [⟨27, 1, rowK [[97], [98]]⟩, ⟨32, 1, rowC [[vB], [vA]]⟩, ⟨26, 3, []⟩] :=
  d_PutE [[97], [98]] [[vB], [vA]] [99] [] okB (by decide) (by unfold putOk; rw [show checkN 1 (.mk [[97], [98]] [[vB], [vA]] []) = true from chkB]; decide) H
theorem a_many (H : List (List Blk)) : CallEq X H 24 [pNode nA] (.d (.int .i64 1)) [] := by
  have h := d_many 1 nA (by decide) okA H
  unfold keysN at h
  rw [if_pos chkA] at h
  exact h
theorem a_depth (H : List (List Blk)) : CallEq X H 25 [pNode nA] (.d (.int .i64 1)) [] := by
  have h := d_depth 1 nA (by decide) okA H
  unfold depthN at h
  rw [if_pos chkA] at h
  exact h
theorem a_check (H : List (List Blk)) : CallEq X H 22 [pNode nA] (.d (.bool true)) [] := by
  have h := d_check 1 nA (by decide) okA H
  rw [chkA] at h
  exact h
end Go.Proofs.Ve

/- awake: all that it asks is so. -/
set_option maxRecDepth 100000
set_option maxHeartbeats 20000000
set_option linter.all false
namespace Go.Proofs.Ve
open Go
def mo12 : List (Nat × Tr) := [(2, .cut (.alt 0 (.alt 1 (.alt 2 (.alt 3 (.alt 4 (.alt 5 (.alt 6 (.alt 7 (.alt 8 (.alt 9 (.alt 10 .fin .none) .none) .none) .none) .none) .none) (.alt 8 (.alt 4 (.alt 5 (.alt 6 (.alt 7 (.alt 9 (.alt 10 .fin .none) .none) .none) .none) .none) .none) .none)) (.alt 8 (.alt 3 (.alt 4 (.alt 5 (.alt 6 (.alt 7 (.alt 9 (.alt 10 .fin .none) .none) .none) .none) .none) .none) .none) .none)) (.alt 3 (.alt 2 (.alt 4 (.alt 5 (.alt 6 (.alt 7 (.alt 8 (.alt 9 (.alt 10 .fin .none) .none) .none) .none) .none) .none) (.alt 8 (.alt 4 (.alt 5 (.alt 6 (.alt 7 (.alt 9 (.alt 10 .fin .none) .none) .none) .none) .none) .none) .none)) (.alt 8 (.alt 2 (.alt 4 (.alt 5 (.alt 6 (.alt 7 (.alt 9 (.alt 10 .fin .none) .none) .none) .none) .none) .none) .none) .none)) (.alt 8 (.alt 2 (.alt 3 (.alt 4 (.alt 5 (.alt 6 (.alt 7 (.alt 9 (.alt 10 .fin .none) .none) .none) .none) .none) .none) .none) (.alt 3 (.alt 2 (.alt 4 (.alt 5 (.alt 6 (.alt 7 (.alt 9 (.alt 10 .fin .none) .none) .none) .none) .none) .none) .none) .none)) .none))) (.alt 3 (.alt 1 (.alt 2 (.alt 4 (.alt 5 (.alt 6 (.alt 7 (.alt 8 (.alt 9 (.alt 10 .fin .none) .none) .none) .none) .none) .none) (.alt 8 (.alt 4 (.alt 5 (.alt 6 (.alt 7 (.alt 9 (.alt 10 .fin .none) .none) .none) .none) .none) .none) .none)) (.alt 8 (.alt 2 (.alt 4 (.alt 5 (.alt 6 (.alt 7 (.alt 9 (.alt 10 .fin .none) .none) .none) .none) .none) .none) .none) .none)) (.alt 8 (.alt 1 (.alt 2 (.alt 4 (.alt 5 (.alt 6 (.alt 7 (.alt 9 (.alt 10 .fin .none) .none) .none) .none) .none) .none) .none) .none) .none)) (.alt 8 (.alt 1 (.alt 2 (.alt 3 (.alt 4 (.alt 5 (.alt 6 (.alt 7 (.alt 9 (.alt 10 .fin .none) .none) .none) .none) .none) .none) .none) (.alt 3 (.alt 2 (.alt 4 (.alt 5 (.alt 6 (.alt 7 (.alt 9 (.alt 10 .fin .none) .none) .none) .none) .none) .none) .none) .none)) (.alt 3 (.alt 1 (.alt 2 (.alt 4 (.alt 5 (.alt 6 (.alt 7 (.alt 9 (.alt 10 .fin .none) .none) .none) .none) .none) .none) .none) .none) .none)) .none))) (.alt 1 (.alt 0 (.alt 2 (.alt 3 (.alt 4 (.alt 5 (.alt 6 (.alt 7 (.alt 8 (.alt 9 (.alt 10 .fin .none) .none) .none) .none) .none) .none) (.alt 8 (.alt 4 (.alt 5 (.alt 6 (.alt 7 (.alt 9 (.alt 10 .fin .none) .none) .none) .none) .none) .none) .none)) (.alt 8 (.alt 3 (.alt 4 (.alt 5 (.alt 6 (.alt 7 (.alt 9 (.alt 10 .fin .none) .none) .none) .none) .none) .none) .none) .none)) (.alt 3 (.alt 2 (.alt 4 (.alt 5 (.alt 6 (.alt 7 (.alt 8 (.alt 9 (.alt 10 .fin .none) .none) .none) .none) .none) .none) (.alt 8 (.alt 4 (.alt 5 (.alt 6 (.alt 7 (.alt 9 (.alt 10 .fin .none) .none) .none) .none) .none) .none) .none)) (.alt 8 (.alt 2 (.alt 4 (.alt 5 (.alt 6 (.alt 7 (.alt 9 (.alt 10 .fin .none) .none) .none) .none) .none) .none) .none) .none)) (.alt 8 (.alt 2 (.alt 3 (.alt 4 (.alt 5 (.alt 6 (.alt 7 (.alt 9 (.alt 10 .fin .none) .none) .none) .none) .none) .none) .none) (.alt 3 (.alt 2 (.alt 4 (.alt 5 (.alt 6 (.alt 7 (.alt 9 (.alt 10 .fin .none) .none) .none) .none) .none) .none) .none) .none)) .none))) (.alt 2 (.alt 0 (.alt 3 (.alt 4 (.alt 5 (.alt 6 (.alt 7 (.alt 8 (.alt 9 (.alt 10 .fin .none) .none) .none) .none) .none) .none) (.alt 8 (.alt 4 (.alt 5 (.alt 6 (.alt 7 (.alt 9 (.alt 10 .fin .none) .none) .none) .none) .none) .none) .none)) (.alt 8 (.alt 3 (.alt 4 (.alt 5 (.alt 6 (.alt 7 (.alt 9 (.alt 10 .fin .none) .none) .none) .none) .none) .none) .none) .none)) (.alt 3 (.alt 0 (.alt 4 (.alt 5 (.alt 6 (.alt 7 (.alt 8 (.alt 9 (.alt 10 .fin .none) .none) .none) .none) .none) .none) (.alt 8 (.alt 4 (.alt 5 (.alt 6 (.alt 7 (.alt 9 (.alt 10 .fin .none) .none) .none) .none) .none) .none) .none)) (.alt 8 (.alt 0 (.alt 4 (.alt 5 (.alt 6 (.alt 7 (.alt 9 (.alt 10 .fin .none) .none) .none) .none) .none) .none) .none) .none)) (.alt 8 (.alt 0 (.alt 3 (.alt 4 (.alt 5 (.alt 6 (.alt 7 (.alt 9 (.alt 10 .fin .none) .none) .none) .none) .none) .none) .none) (.alt 3 (.alt 0 (.alt 4 (.alt 5 (.alt 6 (.alt 7 (.alt 9 (.alt 10 .fin .none) .none) .none) .none) .none) .none) .none) .none)) .none))) (.alt 3 (.alt 0 (.alt 2 (.alt 4 (.alt 5 (.alt 6 (.alt 7 (.alt 8 (.alt 9 (.alt 10 .fin .none) .none) .none) .none) .none) .none) (.alt 8 (.alt 4 (.alt 5 (.alt 6 (.alt 7 (.alt 9 (.alt 10 .fin .none) .none) .none) .none) .none) .none) .none)) (.alt 8 (.alt 2 (.alt 4 (.alt 5 (.alt 6 (.alt 7 (.alt 9 (.alt 10 .fin .none) .none) .none) .none) .none) .none) .none) .none)) (.alt 2 (.alt 0 (.alt 4 (.alt 5 (.alt 6 (.alt 7 (.alt 8 (.alt 9 (.alt 10 .fin .none) .none) .none) .none) .none) .none) (.alt 8 (.alt 4 (.alt 5 (.alt 6 (.alt 7 (.alt 9 (.alt 10 .fin .none) .none) .none) .none) .none) .none) .none)) (.alt 8 (.alt 0 (.alt 4 (.alt 5 (.alt 6 (.alt 7 (.alt 9 (.alt 10 .fin .none) .none) .none) .none) .none) .none) .none) .none)) (.alt 8 (.alt 0 (.alt 2 (.alt 4 (.alt 5 (.alt 6 (.alt 7 (.alt 9 (.alt 10 .fin .none) .none) .none) .none) .none) .none) .none) (.alt 2 (.alt 0 (.alt 4 (.alt 5 (.alt 6 (.alt 7 (.alt 9 (.alt 10 .fin .none) .none) .none) .none) .none) .none) .none) .none)) .none))) (.alt 8 (.alt 0 (.alt 2 (.alt 3 (.alt 4 (.alt 5 (.alt 6 (.alt 7 (.alt 9 (.alt 10 .fin .none) .none) .none) .none) .none) .none) .none) (.alt 3 (.alt 2 (.alt 4 (.alt 5 (.alt 6 (.alt 7 (.alt 9 (.alt 10 .fin .none) .none) .none) .none) .none) .none) .none) .none)) (.alt 2 (.alt 0 (.alt 3 (.alt 4 (.alt 5 (.alt 6 (.alt 7 (.alt 9 (.alt 10 .fin .none) .none) .none) .none) .none) .none) .none) (.alt 3 (.alt 0 (.alt 4 (.alt 5 (.alt 6 (.alt 7 (.alt 9 (.alt 10 .fin .none) .none) .none) .none) .none) .none) .none) .none)) (.alt 3 (.alt 0 (.alt 2 (.alt 4 (.alt 5 (.alt 6 (.alt 7 (.alt 9 (.alt 10 .fin .none) .none) .none) .none) .none) .none) .none) (.alt 2 (.alt 0 (.alt 4 (.alt 5 (.alt 6 (.alt 7 (.alt 9 (.alt 10 .fin .none) .none) .none) .none) .none) .none) .none) .none)) .none))) .none)))) (.alt 3 (.alt 0 (.alt 1 (.alt 2 (.alt 4 (.alt 5 (.alt 6 (.alt 7 (.alt 8 (.alt 9 (.alt 10 .fin .none) .none) .none) .none) .none) .none) (.alt 8 (.alt 4 (.alt 5 (.alt 6 (.alt 7 (.alt 9 (.alt 10 .fin .none) .none) .none) .none) .none) .none) .none)) (.alt 8 (.alt 2 (.alt 4 (.alt 5 (.alt 6 (.alt 7 (.alt 9 (.alt 10 .fin .none) .none) .none) .none) .none) .none) .none) .none)) (.alt 8 (.alt 1 (.alt 2 (.alt 4 (.alt 5 (.alt 6 (.alt 7 (.alt 9 (.alt 10 .fin .none) .none) .none) .none) .none) .none) .none) .none) .none)) (.alt 1 (.alt 0 (.alt 2 (.alt 4 (.alt 5 (.alt 6 (.alt 7 (.alt 8 (.alt 9 (.alt 10 .fin .none) .none) .none) .none) .none) .none) (.alt 8 (.alt 4 (.alt 5 (.alt 6 (.alt 7 (.alt 9 (.alt 10 .fin .none) .none) .none) .none) .none) .none) .none)) (.alt 8 (.alt 2 (.alt 4 (.alt 5 (.alt 6 (.alt 7 (.alt 9 (.alt 10 .fin .none) .none) .none) .none) .none) .none) .none) .none)) (.alt 2 (.alt 0 (.alt 4 (.alt 5 (.alt 6 (.alt 7 (.alt 8 (.alt 9 (.alt 10 .fin .none) .none) .none) .none) .none) .none) (.alt 8 (.alt 4 (.alt 5 (.alt 6 (.alt 7 (.alt 9 (.alt 10 .fin .none) .none) .none) .none) .none) .none) .none)) (.alt 8 (.alt 0 (.alt 4 (.alt 5 (.alt 6 (.alt 7 (.alt 9 (.alt 10 .fin .none) .none) .none) .none) .none) .none) .none) .none)) (.alt 8 (.alt 0 (.alt 2 (.alt 4 (.alt 5 (.alt 6 (.alt 7 (.alt 9 (.alt 10 .fin .none) .none) .none) .none) .none) .none) .none) (.alt 2 (.alt 0 (.alt 4 (.alt 5 (.alt 6 (.alt 7 (.alt 9 (.alt 10 .fin .none) .none) .none) .none) .none) .none) .none) .none)) .none))) (.alt 8 (.alt 0 (.alt 1 (.alt 2 (.alt 4 (.alt 5 (.alt 6 (.alt 7 (.alt 9 (.alt 10 .fin .none) .none) .none) .none) .none) .none) .none) .none) (.alt 1 (.alt 0 (.alt 2 (.alt 4 (.alt 5 (.alt 6 (.alt 7 (.alt 9 (.alt 10 .fin .none) .none) .none) .none) .none) .none) .none) (.alt 2 (.alt 0 (.alt 4 (.alt 5 (.alt 6 (.alt 7 (.alt 9 (.alt 10 .fin .none) .none) .none) .none) .none) .none) .none) .none)) .none)) .none))) (.alt 8 (.alt 0 (.alt 1 (.alt 2 (.alt 3 (.alt 4 (.alt 5 (.alt 6 (.alt 7 (.alt 9 (.alt 10 .fin .none) .none) .none) .none) .none) .none) .none) (.alt 3 (.alt 2 (.alt 4 (.alt 5 (.alt 6 (.alt 7 (.alt 9 (.alt 10 .fin .none) .none) .none) .none) .none) .none) .none) .none)) (.alt 3 (.alt 1 (.alt 2 (.alt 4 (.alt 5 (.alt 6 (.alt 7 (.alt 9 (.alt 10 .fin .none) .none) .none) .none) .none) .none) .none) .none) .none)) (.alt 1 (.alt 0 (.alt 2 (.alt 3 (.alt 4 (.alt 5 (.alt 6 (.alt 7 (.alt 9 (.alt 10 .fin .none) .none) .none) .none) .none) .none) .none) (.alt 3 (.alt 2 (.alt 4 (.alt 5 (.alt 6 (.alt 7 (.alt 9 (.alt 10 .fin .none) .none) .none) .none) .none) .none) .none) .none)) (.alt 2 (.alt 0 (.alt 3 (.alt 4 (.alt 5 (.alt 6 (.alt 7 (.alt 9 (.alt 10 .fin .none) .none) .none) .none) .none) .none) .none) (.alt 3 (.alt 0 (.alt 4 (.alt 5 (.alt 6 (.alt 7 (.alt 9 (.alt 10 .fin .none) .none) .none) .none) .none) .none) .none) .none)) (.alt 3 (.alt 0 (.alt 2 (.alt 4 (.alt 5 (.alt 6 (.alt 7 (.alt 9 (.alt 10 .fin .none) .none) .none) .none) .none) .none) .none) (.alt 2 (.alt 0 (.alt 4 (.alt 5 (.alt 6 (.alt 7 (.alt 9 (.alt 10 .fin .none) .none) .none) .none) .none) .none) .none) .none)) .none))) (.alt 3 (.alt 0 (.alt 1 (.alt 2 (.alt 4 (.alt 5 (.alt 6 (.alt 7 (.alt 9 (.alt 10 .fin .none) .none) .none) .none) .none) .none) .none) .none) (.alt 1 (.alt 0 (.alt 2 (.alt 4 (.alt 5 (.alt 6 (.alt 7 (.alt 9 (.alt 10 .fin .none) .none) .none) .none) .none) .none) .none) (.alt 2 (.alt 0 (.alt 4 (.alt 5 (.alt 6 (.alt 7 (.alt 9 (.alt 10 .fin .none) .none) .none) .none) .none) .none) .none) .none)) .none)) .none))) .none))))), (9, .cut (.alt 0 (.alt 1 (.alt 2 (.alt 3 (.alt 4 (.alt 5 (.alt 6 (.alt 7 (.alt 8 (.alt 9 .fin .none) .none) .none) .none) .none) .none) (.alt 7 (.alt 3 (.alt 4 (.alt 5 (.alt 6 (.alt 8 (.alt 9 .fin .none) .none) .none) .none) .none) .none) .none)) (.alt 7 (.alt 2 (.alt 3 (.alt 4 (.alt 5 (.alt 6 (.alt 8 (.alt 9 .fin .none) .none) .none) .none) .none) .none) .none) .none)) (.alt 2 (.alt 1 (.alt 3 (.alt 4 (.alt 5 (.alt 6 (.alt 7 (.alt 8 (.alt 9 .fin .none) .none) .none) .none) .none) .none) (.alt 7 (.alt 3 (.alt 4 (.alt 5 (.alt 6 (.alt 8 (.alt 9 .fin .none) .none) .none) .none) .none) .none) .none)) (.alt 7 (.alt 1 (.alt 3 (.alt 4 (.alt 5 (.alt 6 (.alt 8 (.alt 9 .fin .none) .none) .none) .none) .none) .none) .none) .none)) (.alt 7 (.alt 1 (.alt 2 (.alt 3 (.alt 4 (.alt 5 (.alt 6 (.alt 8 (.alt 9 .fin .none) .none) .none) .none) .none) .none) .none) (.alt 2 (.alt 1 (.alt 3 (.alt 4 (.alt 5 (.alt 6 (.alt 8 (.alt 9 .fin .none) .none) .none) .none) .none) .none) .none) .none)) .none))) (.alt 1 (.alt 0 (.alt 2 (.alt 3 (.alt 4 (.alt 5 (.alt 6 (.alt 7 (.alt 8 (.alt 9 .fin .none) .none) .none) .none) .none) .none) (.alt 7 (.alt 3 (.alt 4 (.alt 5 (.alt 6 (.alt 8 (.alt 9 .fin .none) .none) .none) .none) .none) .none) .none)) (.alt 7 (.alt 2 (.alt 3 (.alt 4 (.alt 5 (.alt 6 (.alt 8 (.alt 9 .fin .none) .none) .none) .none) .none) .none) .none) .none)) (.alt 2 (.alt 0 (.alt 3 (.alt 4 (.alt 5 (.alt 6 (.alt 7 (.alt 8 (.alt 9 .fin .none) .none) .none) .none) .none) .none) (.alt 7 (.alt 3 (.alt 4 (.alt 5 (.alt 6 (.alt 8 (.alt 9 .fin .none) .none) .none) .none) .none) .none) .none)) (.alt 7 (.alt 0 (.alt 3 (.alt 4 (.alt 5 (.alt 6 (.alt 8 (.alt 9 .fin .none) .none) .none) .none) .none) .none) .none) .none)) (.alt 7 (.alt 0 (.alt 2 (.alt 3 (.alt 4 (.alt 5 (.alt 6 (.alt 8 (.alt 9 .fin .none) .none) .none) .none) .none) .none) .none) (.alt 2 (.alt 0 (.alt 3 (.alt 4 (.alt 5 (.alt 6 (.alt 8 (.alt 9 .fin .none) .none) .none) .none) .none) .none) .none) .none)) .none))) (.alt 2 (.alt 0 (.alt 1 (.alt 3 (.alt 4 (.alt 5 (.alt 6 (.alt 7 (.alt 8 (.alt 9 .fin .none) .none) .none) .none) .none) .none) (.alt 7 (.alt 3 (.alt 4 (.alt 5 (.alt 6 (.alt 8 (.alt 9 .fin .none) .none) .none) .none) .none) .none) .none)) (.alt 7 (.alt 1 (.alt 3 (.alt 4 (.alt 5 (.alt 6 (.alt 8 (.alt 9 .fin .none) .none) .none) .none) .none) .none) .none) .none)) (.alt 1 (.alt 0 (.alt 3 (.alt 4 (.alt 5 (.alt 6 (.alt 7 (.alt 8 (.alt 9 .fin .none) .none) .none) .none) .none) .none) (.alt 7 (.alt 3 (.alt 4 (.alt 5 (.alt 6 (.alt 8 (.alt 9 .fin .none) .none) .none) .none) .none) .none) .none)) (.alt 7 (.alt 0 (.alt 3 (.alt 4 (.alt 5 (.alt 6 (.alt 8 (.alt 9 .fin .none) .none) .none) .none) .none) .none) .none) .none)) (.alt 7 (.alt 0 (.alt 1 (.alt 3 (.alt 4 (.alt 5 (.alt 6 (.alt 8 (.alt 9 .fin .none) .none) .none) .none) .none) .none) .none) (.alt 1 (.alt 0 (.alt 3 (.alt 4 (.alt 5 (.alt 6 (.alt 8 (.alt 9 .fin .none) .none) .none) .none) .none) .none) .none) .none)) .none))) (.alt 7 (.alt 0 (.alt 1 (.alt 2 (.alt 3 (.alt 4 (.alt 5 (.alt 6 (.alt 8 (.alt 9 .fin .none) .none) .none) .none) .none) .none) .none) (.alt 2 (.alt 1 (.alt 3 (.alt 4 (.alt 5 (.alt 6 (.alt 8 (.alt 9 .fin .none) .none) .none) .none) .none) .none) .none) .none)) (.alt 1 (.alt 0 (.alt 2 (.alt 3 (.alt 4 (.alt 5 (.alt 6 (.alt 8 (.alt 9 .fin .none) .none) .none) .none) .none) .none) .none) (.alt 2 (.alt 0 (.alt 3 (.alt 4 (.alt 5 (.alt 6 (.alt 8 (.alt 9 .fin .none) .none) .none) .none) .none) .none) .none) .none)) (.alt 2 (.alt 0 (.alt 1 (.alt 3 (.alt 4 (.alt 5 (.alt 6 (.alt 8 (.alt 9 .fin .none) .none) .none) .none) .none) .none) .none) (.alt 1 (.alt 0 (.alt 3 (.alt 4 (.alt 5 (.alt 6 (.alt 8 (.alt 9 .fin .none) .none) .none) .none) .none) .none) .none) .none)) .none))) .none)))))]
theorem d_awake (H : List (List Blk)) : CallEq X H 12 [] (.d (.bool true)) [] := by
  refine callEq_of_bodyF X_ok false true (mo := mo12) (by kernel_rfl) Try.func12 rfl ?_
  conv => whnf
  refine ⟨_, _, (d_one 1 _).md _ _, True.intro, ?_⟩
  conv => whnf
  refine ⟨_, _, (a_put1 _).md _ _, True.intro, ?_⟩
  conv => whnf
  refine cutV_of [.any, .any, .d (.int .i64 0), .ptr 0 0 0, .d (.int .i64 0), .any, .any, .any, .any, .any, .any, .any, .any, .any, .any, .any, .any, .any, .any, .any, .any, .any, .any, .any, .any, .any, .any, .any, .any, .any, .any, .any, .any, .any, .any, .any, .any, .any, .any, .any, .any, .any, .any, .any, .any, .any, .any, .any, .any, .any, .any, .any, .any, .any, .any, .any, .any, .any, .any, .any, .any, .any, .any, .any, .any, .any, .any, .any, .any, .any, .any, .any, .any, .any, .any, .any, .any, .any, .any, .any, .any, .any, .any, .any, .any, .any, .any, .any, .any, .any, .any, .any, .any, .any, .any, .any, .any, .any, .any, .any, .any, .any, .any, .any, .any, .any, .any, .any, .any, .any, .any, .any, .any, .any, .any, .any, .any, .any, .any, .any, .any, .any, .any, .any, .any, .any, .any, .any, .any, .any, .any, .any, .any, .any, .any, .any, .any, .any, .any, .any, .any, .any, .any, .any, .any, .any, .any, .any, .any, .any, .any, .any, .any, .any, .any, .any, .any, .any, .any, .any, .any, .any, .any, .any, .any, .any, .any, .any, .any, .any, .any, .any, .any] [.box [.row 0 1 2, .row 0 2 2, .row 0 3 0], .row 27 1 (rowK [[97], [98]]), .row 32 1 (rowC [[vB], [vA]]), .row 26 3 []] ?_ ?_
  · conv => whnf
    repeat' (first
      | (refine ⟨_, _, (d_one 2 _).md _ _, True.intro, ?_⟩; conv => whnf)
      | (refine ⟨_, _, (a_put2 _).md _ _, True.intro, ?_⟩; conv => whnf)
      | (refine And.intro ?_ ?_ <;> (conv => whnf))
      | fail)
    all_goals first
      | (refine ⟨[7, 4, 5, 6], And.intro rfl (And.intro ?_ ?_)⟩
         all_goals (repeat' (first | exact True.intro | exact rfl | refine And.intro ?_ ?_))
         done)
      | (refine ⟨[4, 5, 6, 7], And.intro rfl (And.intro ?_ ?_)⟩
         all_goals (repeat' (first | exact True.intro | exact rfl | refine And.intro ?_ ?_))
         done)
  · conv => whnf
    refine ⟨_, _, (a_keys _).md _ _, True.intro, ?_⟩
    conv => whnf
    refine ⟨_, _, (a_find _).md _ _, True.intro, ?_⟩
    conv => whnf
    refine ⟨_, _, (a_next1 _).md _ _, True.intro, ?_⟩
    conv => whnf
    refine ⟨_, _, (a_next2 _).md _ _, True.intro, ?_⟩
    conv => whnf
    refine ⟨_, _, (a_del1 _).md _ _, True.intro, ?_⟩
    conv => whnf
    refine ⟨_, _, (a_del2 _).md _ _, True.intro, ?_⟩
    conv => whnf
    refine cutV_of [.any, .any, .d (.int .i64 0), .ptr 0 0 0, .d (.int .i64 0), .d (encKs [[97], [98]]), .d (encVs [vA]), .d (.bool true), .d (encB [98]), .d (.bool true), .any, .d (.bool false), .ptr 0 1 0, .d (.int .i64 0), .any, .d (.int .i64 61), .any, .d (.int .i64 1), .any, .any, .any, .any, .any, .any, .any, .any, .any, .any, .any, .any, .any, .any, .any, .any, .any, .any, .any, .any, .any, .any, .any, .any, .any, .any, .any, .any, .any, .any, .any, .any, .any, .any, .any, .any, .any, .any, .any, .any, .any, .any, .any, .any, .any, .any, .any, .any, .any, .any, .any, .any, .any, .any, .any, .any, .any, .any, .any, .any, .any, .any, .any, .any, .any, .any, .any, .any, .any, .any, .any, .any, .any, .any, .any, .any, .any, .any, .any, .any, .any, .any, .any, .any, .any, .any, .any, .any, .any, .any, .any, .any, .any, .any, .any, .any, .any, .any, .any, .any, .any, .any, .any, .any, .any, .any, .any, .any, .any, .any, .any, .any, .any, .any, .any, .any, .any, .any, .any, .any, .any, .any, .any, .any, .any, .any, .any, .any, .any, .any, .any, .any, .any, .any, .any, .any, .any, .any, .any, .any, .any, .any, .any, .any, .any, .any, .any, .any, .any, .any, .any, .any, .any, .any, .any] [bNode nB, bNode nA] ?_ ?_
    · conv => whnf
      repeat' (first
        | (refine ⟨_, _, (d_one 1 _).md _ _, True.intro, ?_⟩; conv => whnf)
        | (refine ⟨_, _, (a_put3 _).md _ _, True.intro, ?_⟩; conv => whnf)
        | (refine And.intro ?_ ?_ <;> (conv => whnf))
        | exact Int.NonNeg.mk _
        | (refine ⟨[0, 7], And.intro rfl (And.intro ?_ ?_)⟩
           all_goals (repeat' (first | exact True.intro | exact rfl | refine And.intro ?_ ?_))
           done)
        | fail)
    · conv => whnf
      refine ⟨_, _, (a_put4 _).md _ _, True.intro, ?_⟩
      conv => whnf
      have kA : ∀ j : Nat, ([[encB [97]], [encB [98]]] : List (List DV))[j]? = [[encB [97]], [encB [98]]][j]? := fun _ => rfl
      repeat' (first
        | (exfalso; revert h; decide)
        | exact Bool.noConfusion (show true = false from (beq_self_eq_true _).symm.trans h)
        | (refine And.intro (fun h => ?_) (fun h => ?_) <;> (conv => whnf))
        | (refine ⟨Int.NonNeg.mk _, [encB [97]], rfl, rfl, ?_⟩; conv => whnf)
        | (refine ⟨Int.NonNeg.mk _, [encB [98]], rfl, rfl, ?_⟩; conv => whnf)
        | (refine ⟨Int.NonNeg.mk _, cVer vA, rfl, rfl, ?_⟩; conv => whnf)
        | (refine ⟨[], rfl, ?_⟩
           (repeat' (first | exact True.intro | exact rfl | refine And.intro ?_ ?_))
           done)
        | (refine ⟨[97], rfl, ?_⟩; conv => whnf)
        | (refine ⟨[98], rfl, ?_⟩; conv => whnf)
        | (refine ⟨_, _, (a_many _).md _ _, True.intro, ?_⟩; conv => whnf)
        | (refine ⟨_, _, (a_depth _).md _ _, True.intro, ?_⟩; conv => whnf)
        | (refine ⟨_, _, (a_check _).md _ _, True.intro, ?_⟩; conv => whnf)
        | fail)
end Go.Proofs.Ve

/- Plain laws of trees: what is found is what stands in the list of all. -/
set_option linter.all false
namespace Go.Proofs.Ve
open Go
theorem cm_lt_trans {a b c : List UInt8} (h1 : cm a b < 0) (h2 : cm b c < 0) : cm a c < 0 := by
  have h := cm_trans a b c (by omega) (by omega)
  rcases Int.lt_or_eq_of_le h with h | h
  · exact h
  · exfalso
    have := (cm_eq a c).1 h
    subst this
    have := cm_flip a b
    omega
theorem cm_lt_of_lt_le {a b c : List UInt8} (h1 : cm a b < 0) (h2 : cm b c ≤ 0) : cm a c < 0 := by
  rcases Int.lt_or_eq_of_le h2 with h | h
  · exact cm_lt_trans h1 h
  · rw [← (cm_eq b c).1 h]; exact h1
def SortedKV (l : List KV) : Prop := l.Pairwise fun p q => cm p.1 q.1 < 0
theorem chkL_sorted : ∀ (l : List KV) (o : Option (List UInt8)), chkL o l = true → SortedKV l ∧ ∀ a, o = some a → ∀ p ∈ l, cm a p.1 < 0
  | [], o, _ => ⟨List.Pairwise.nil, fun a _ p hp => by cases hp⟩
  | p :: ps, o, h => by
    unfold chkL at h
    split at h
    · cases h
    · rename_i hb
      obtain ⟨h1, h2⟩ := chkL_sorted ps _ h
      have h3 := h2 p.1 rfl
      refine ⟨List.Pairwise.cons h3 h1, fun a ha q hq => ?_⟩
      have hap : cm a p.1 < 0 := by
        subst ha
        unfold keyBad at hb
        simp only [cmpB_eq] at hb
        simp at hb
        omega
      rcases List.mem_cons.1 hq with rfl | hq
      · exact hap
      · exact cm_lt_trans hap (h3 q hq)
/-! ### the place of a key -/
def SortedK (l : List (List UInt8)) : Prop := l.Pairwise fun a b => cm a b < 0
theorem sorted_get {l : List (List UInt8)} (h : SortedK l) {i j : Nat} {a b : List UInt8} (hij : i < j) (ha : l[i]? = some a) (hb : l[j]? = some b) : cm a b < 0 := by
  obtain ⟨h1, rfl⟩ := List.getElem?_eq_some_iff.1 ha
  obtain ⟨h2, rfl⟩ := List.getElem?_eq_some_iff.1 hb
  exact (List.pairwise_iff_getElem.1 h) i j h1 h2 hij
theorem bsF_spec {l : List (List UInt8)} (hs : SortedK l) (k : List UInt8) : ∀ (n i j : Nat), j - i ≤ n → i ≤ j → j ≤ l.length → (∀ t a, t < i → l[t]? = some a → cm a k < 0) → (∀ t a, j ≤ t → l[t]? = some a → 0 ≤ cm a k) →
    (∀ t a, t < bsF (fun x => cmpB x k) l n i j → l[t]? = some a → cm a k < 0) ∧ (∀ t a, bsF (fun x => cmpB x k) l n i j ≤ t → l[t]? = some a → 0 ≤ cm a k)
  | 0, i, j, h, hij, hj, h1, h2 => by
    have : i = j := by omega
    subst this
    exact ⟨h1, h2⟩
  | n + 1, i, j, h, hij, hj, h1, h2 => by
    unfold bsF
    split
    · rename_i hlt
      obtain ⟨y, hy⟩ : ∃ y, l[half i j]? = some y := ⟨_, List.getElem?_eq_getElem (by unfold half; omega)⟩
      have hg : l.getD (half i j) [] = y := by simp [List.getD, hy]
      rw [hg, cmpB_eq]
      split
      · rename_i hc
        refine bsF_spec hs k n _ j (by unfold half; omega) (by unfold half; omega) hj (fun t a ht ha => ?_) h2
        rcases Nat.lt_or_ge t (half i j) with h | h
        · exact cm_lt_trans (sorted_get hs h ha hy) hc
        · obtain rfl : t = half i j := by omega
          rw [hy] at ha; cases ha; exact hc
      · rename_i hc
        refine bsF_spec hs k n i _ (by unfold half; omega) (by unfold half; omega) (by unfold half; omega) h1 (fun t a ht ha => ?_)
        rcases Nat.lt_or_ge (half i j) t with h | h
        · have := sorted_get hs h hy ha
          have hf := cm_flip y k
          rcases Int.lt_or_le (cm a k) 0 with h' | h'
          · exfalso
            have := cm_lt_trans this h'
            omega
          · exact h'
        · obtain rfl : t = half i j := by omega
          rw [hy] at ha; cases ha; omega
    · have : i = j := by omega
      subst this
      exact ⟨h1, h2⟩
theorem bs_spec {l : List (List UInt8)} (hs : SortedK l) (k : List UInt8) : (∀ t a, t < bs l k → l[t]? = some a → cm a k < 0) ∧ (∀ t a, bs l k ≤ t → l[t]? = some a → 0 ≤ cm a k) :=
  bsF_spec hs k _ 0 _ (by omega) (Nat.zero_le _) (Nat.le_refl _) (fun t a h _ => by omega) (fun t a h ha => by have := (List.getElem?_eq_some_iff.1 ha).1; omega)
theorem bsIs_spec {l : List (List UInt8)} {k : List UInt8} : bsIs l k = true ↔ l[bs l k]? = some k := by
  unfold bsIs
  rw [cmpB_eq]
  constructor
  · intro h
    simp only [Bool.and_eq_true, decide_eq_true_eq, beq_iff_eq, List.length_map] at h
    obtain ⟨h1, h2⟩ := h
    obtain ⟨y, hy⟩ : ∃ y, l[bs l k]? = some y := ⟨_, List.getElem?_eq_getElem (by omega)⟩
    have hg : l.getD (bs l k) [] = y := by simp [List.getD, hy]
    rw [hg] at h2
    rw [hy, (cm_eq y k).1 h2]
  · intro h
    have hlt := (List.getElem?_eq_some_iff.1 h).1
    have hg : l.getD (bs l k) [] = k := by simp [List.getD, h]
    rw [hg, cm_self]
    simp only [List.length_map, Bool.and_eq_true, decide_eq_true_eq]
    exact ⟨by omega, rfl⟩
/-! ### a node's list, about a place -/
def sufD (d : Nat) (n : Node) (i : Nat) : List KV := (List.range' (i + 1) (n.keys.length - i)).flatMap (segD d n)
theorem allD_cut (d : Nat) (n : Node) (i : Nat) (hi : i ≤ n.keys.length) : allD (d + 1) n = preD d n i ++ (kidD d n i ++ (pairD n i ++ sufD d n i)) := by
  show (List.range (n.keys.length + 1)).flatMap (segD d n) = _
  have e : List.range (n.keys.length + 1) = List.range i ++ ([i] ++ List.range' (i + 1) (n.keys.length - i)) := by
    rw [List.range_eq_range', List.range_eq_range', show n.keys.length + 1 = i + (1 + (n.keys.length - i)) by omega, ← List.range'_append_1, ← List.range'_append_1]
    simp
  rw [e, List.flatMap_append, List.flatMap_append]
  simp [preD, sufD, segD]
/-! ### what stands about a place -/
theorem pairD_some {n : Node} {i : Nat} {k : List UInt8} {c : List Ver} (h1 : n.keys[i]? = some k) (h2 : n.chains[i]? = some c) : pairD n i = [(k, c)] := by unfold pairD; rw [h1, h2]
theorem pairD_end {n : Node} {i : Nat} (h : n.keys.length ≤ i) : pairD n i = [] := by unfold pairD; rw [List.getElem?_eq_none h]
theorem pairD_mem {n : Node} {i : Nat} {p : KV} (h : p ∈ pairD n i) : n.keys[i]? = some p.1 ∧ n.chains[i]? = some p.2 := by
  unfold pairD at h
  split at h
  · rename_i h1 h2
    rcases List.mem_singleton.1 h with rfl
    exact ⟨h1, h2⟩
  · cases h
theorem pairD_at {n : Node} (hc : n.chains.length = n.keys.length) {i : Nat} {k : List UInt8} (h : n.keys[i]? = some k) : ∃ c, n.chains[i]? = some c ∧ pairD n i = [(k, c)] := by
  have hi := (List.getElem?_eq_some_iff.1 h).1
  have h2 : n.chains[i]? = some (n.chains[i]'(by omega)) := List.getElem?_eq_getElem (by omega)
  exact ⟨_, h2, pairD_some h h2⟩
theorem sorted_cut {d : Nat} {n : Node} (hs : SortedKV (allD (d + 1) n)) {i : Nat} {k : List UInt8} {c : List Ver} (h : n.keys[i]? = some k) (h2 : n.chains[i]? = some c) :
    (∀ p ∈ preD d n i, cm p.1 k < 0) ∧ (∀ p ∈ kidD d n i, cm p.1 k < 0) ∧ (∀ p ∈ sufD d n i, cm k p.1 < 0) := by
  have hi := (List.getElem?_eq_some_iff.1 h).1
  unfold SortedKV at hs
  rw [allD_cut d n i (by omega), pairD_some h h2, List.pairwise_append, List.pairwise_append, List.pairwise_append] at hs
  obtain ⟨_, ⟨_, ⟨_, _, h3⟩, h4⟩, h5⟩ := hs
  exact ⟨fun p hp => h5 p hp (k, c) (by simp), fun p hp => h4 p hp (k, c) (by simp), fun p hp => h3 (k, c) (by simp) p hp⟩
theorem sorted_kid {d : Nat} {n : Node} (hs : SortedKV (allD (d + 1) n)) {i : Nat} (hi : i ≤ n.keys.length) : SortedKV (kidD d n i) := by
  unfold SortedKV at hs
  rw [allD_cut d n i hi, List.pairwise_append, List.pairwise_append] at hs
  exact hs.2.1.1
theorem pre_mem {d : Nat} {n : Node} {i j : Nat} (hij : i < j) {p : KV} (h : p ∈ segD d n i) : p ∈ preD d n j := by
  unfold preD
  rw [List.mem_flatMap]
  exact ⟨i, List.mem_range.2 hij, h⟩
theorem sorted_keys {d : Nat} {n : Node} (hc : n.chains.length = n.keys.length) (hs : SortedKV (allD (d + 1) n)) : SortedK n.keys := by
  unfold SortedK
  rw [List.pairwise_iff_getElem]
  intro i j hi hj hij
  have hgi : n.keys[i]? = some n.keys[i] := List.getElem?_eq_getElem hi
  have hgj : n.keys[j]? = some n.keys[j] := List.getElem?_eq_getElem hj
  obtain ⟨c, h1, h2⟩ := pairD_at hc hgi
  obtain ⟨c', h1', h2'⟩ := pairD_at hc hgj
  exact (sorted_cut hs hgj h1').1 (n.keys[i], c) (pre_mem hij (by unfold segD; rw [h2]; simp))
/-- about the place of a key: what stands ahead is less, what stands behind more -/
theorem about {d : Nat} {n : Node} (hc : n.chains.length = n.keys.length) (hs : SortedKV (allD (d + 1) n)) (k : List UInt8) :
    (∀ p ∈ preD d n (bs n.keys k), cm p.1 k < 0) ∧ (bsIs n.keys k = true → (∀ p ∈ kidD d n (bs n.keys k), cm p.1 k < 0) ∧ ∃ c, n.chains[bs n.keys k]? = some c ∧ pairD n (bs n.keys k) = [(k, c)]) ∧
    (bsIs n.keys k = false → ∀ p ∈ pairD n (bs n.keys k) ++ sufD d n (bs n.keys k), 0 < cm p.1 k) := by
  have hk := sorted_keys hc hs
  obtain ⟨b1, b2⟩ := bs_spec hk k
  have ble := bs_le n.keys k
  have bis := @bsIs_spec n.keys k
  generalize bs n.keys k = i at b1 b2 ble bis ⊢
  refine ⟨fun p hp => ?_, fun h => ?_, fun h p hp => ?_⟩
  · unfold preD at hp
    obtain ⟨t, ht, hp⟩ := List.mem_flatMap.1 hp
    have ht := List.mem_range.1 ht
    have hg : n.keys[t]? = some (n.keys[t]'(by omega)) := List.getElem?_eq_getElem (by omega)
    have hlt := b1 t _ ht hg
    obtain ⟨c, h1, h2⟩ := pairD_at hc hg
    unfold segD at hp
    rcases List.mem_append.1 hp with hp | hp
    · exact cm_lt_trans ((sorted_cut hs hg h1).2.1 p hp) hlt
    · obtain ⟨h3, _⟩ := pairD_mem hp
      rw [hg] at h3; rw [← Option.some.inj h3]; exact hlt
  · have hg := bis.1 h
    obtain ⟨c, h1, h2⟩ := pairD_at hc hg
    exact ⟨(sorted_cut hs hg h1).2.1, c, h1, h2⟩
  · have hlt : i < n.keys.length := by
      rcases Nat.lt_or_ge i n.keys.length with h' | h'
      · exact h'
      · exfalso
        rw [pairD_end h'] at hp
        unfold sufD at hp
        rw [show n.keys.length - i = 0 by omega] at hp
        cases hp
    have hg : n.keys[i]? = some n.keys[i] := List.getElem?_eq_getElem hlt
    have hge := b2 i _ (Nat.le_refl _) hg
    have hne : cm n.keys[i] k ≠ 0 := by
      intro h0
      rw [(cm_eq _ _).1 h0] at hg
      rw [bis.2 hg] at h; cases h
    obtain ⟨c, h1, h2⟩ := pairD_at hc hg
    rcases List.mem_append.1 hp with hp | hp
    · obtain ⟨h3, _⟩ := pairD_mem hp
      rw [hg] at h3; rw [← Option.some.inj h3]; omega
    · have h3 := (sorted_cut hs hg h1).2.2 p hp
      have f1 := cm_flip n.keys[i] k
      have f2 := cm_flip p.1 k
      have := cm_lt_trans (a := k) (b := n.keys[i]) (c := p.1) (by omega) h3
      omega
theorem find_none {l : List KV} {P : KV → Bool} (h : ∀ p ∈ l, P p = false) : l.find? P = none := by
  rw [List.find?_eq_none]; intro p hp; rw [h p hp]; exact fun h => nomatch h
/-- the entry of a key; the first that is not ahead of it -/
def eqP (k : List UInt8) (p : KV) : Bool := decide (cm p.1 k = 0)
def geP (k : List UInt8) (p : KV) : Bool := decide (0 ≤ cm p.1 k)
theorem eqP_lt {k : List UInt8} {p : KV} (h : cm p.1 k < 0) : eqP k p = false := by unfold eqP; simp; omega
theorem eqP_gt {k : List UInt8} {p : KV} (h : 0 < cm p.1 k) : eqP k p = false := by unfold eqP; simp; omega
theorem geP_lt {k : List UInt8} {p : KV} (h : cm p.1 k < 0) : geP k p = false := by unfold geP; simp; omega
theorem find_eq : ∀ (d : Nat) (n : Node) (least : Int) (k : List UInt8), nOk d n → deepN n least ≠ 0 → SortedKV (allD d n) → findN d n k = ((allD d n).find? (eqP k)).map (·.2)
  | 0, n, _, k, h, _, _ => h.elim
  | d + 1, n, least, k, hn, hd, hs => by
    obtain ⟨hc, h2, h3, h4⟩ := deep_parts hd
    obtain ⟨a1, a2, a3⟩ := about hc hs k
    have ble := bs_le n.keys k
    rw [allD_cut d n _ ble, List.find?_append, List.find?_append, find_none fun p hp => eqP_lt (a1 p hp)]
    show (if bsIs n.keys k then n.chains[bs n.keys k]? else match n.kids[bs n.keys k]? with | some x => findN d x k | none => none) = _
    cases hb : bsIs n.keys k with
    | true =>
      obtain ⟨c1, c, c2, c3⟩ := a2 hb
      rw [find_none fun p hp => eqP_lt (c1 p hp), c2, c3, if_pos rfl]
      simp [eqP, cm_self]
    | false =>
      rw [find_none (l := pairD n _ ++ sufD d n _) fun p hp => eqP_gt (a3 hb p hp), if_neg (by simp)]
      have hks := sorted_kid hs ble
      simp only [Option.none_or, Option.or_none]
      unfold kidD kidP at hks ⊢
      cases hx : n.kids[bs n.keys k]? with
      | some x =>
        rw [hx] at hks
        have hm := List.mem_of_getElem? hx
        rcases h4 with ⟨h4, _⟩ | ⟨_, _, h4⟩
        · rw [h4] at hm; cases hm
        · exact find_eq d x 1 k (nOk_kid hn x hm) (h4 x hm).2 hks
      | none => rfl
def orK (o : Option KV) (r : Option (List UInt8)) : Option (List UInt8) := match o with | some p => some p.1 | none => r
theorem next_eq : ∀ (d : Nat) (n : Node) (least : Int) (k : List UInt8) (o : Option (List UInt8)), nOk d n → deepN n least ≠ 0 → SortedKV (allD d n) → nextN d n k o = orK ((allD d n).find? (geP k)) o
  | 0, n, _, k, _, h, _, _ => h.elim
  | d + 1, n, least, k, o, hn, hd, hs => by
    obtain ⟨hc, h2, h3, h4⟩ := deep_parts hd
    obtain ⟨a1, a2, a3⟩ := about hc hs k
    have ble := bs_le n.keys k
    rw [allD_cut d n _ ble, List.find?_append, List.find?_append, find_none fun p hp => geP_lt (a1 p hp)]
    show (if bsIs n.keys k || leafN n then stepO n k o else match n.kids[bs n.keys k]? with | some x => nextN d x k (stepO n k o) | none => o) = _
    cases hb : bsIs n.keys k with
    | true =>
      obtain ⟨c1, c, c2, c3⟩ := a2 hb
      rw [find_none fun p hp => geP_lt (c1 p hp), c3, if_pos (by simp)]
      have hg := bsIs_spec.1 hb
      unfold stepO
      rw [hg]
      simp [geP, cm_self, orK]
    | false =>
      have hstep : stepO n k o = orK ((pairD n (bs n.keys k) ++ sufD d n (bs n.keys k)).find? (geP k)) o := by
        have a3 := a3 hb
        unfold stepO
        split
        · rename_i x hx
          obtain ⟨c, h1, h2⟩ := pairD_at hc hx
          rw [h2] at a3 ⊢
          have := a3 (x, c) (by simp)
          have hge : geP k (x, c) = true := by unfold geP; exact decide_eq_true (by omega)
          simp [hge, orK]
        · rename_i hx
          have hle := List.getElem?_eq_none_iff.1 hx
          rw [pairD_end hle]
          unfold sufD
          rw [show n.keys.length - bs n.keys k = 0 by omega]
          rfl
      have hks := sorted_kid hs ble
      simp only [Option.none_or, Bool.false_or]
      rcases h4 with ⟨h4, _⟩ | ⟨h4, _, h5⟩
      · have hl : leafN n = true := by unfold leafN; rw [h4]; rfl
        have hkid : kidD d n (bs n.keys k) = [] := by unfold kidD kidP; rw [h4]; rfl
        rw [if_pos hl, hstep, hkid]; simp
      · have hl : leafN n = false := by unfold leafN; rw [List.length_map, h4]; simp; omega
        obtain ⟨x, hx⟩ : ∃ x, n.kids[bs n.keys k]? = some x := ⟨_, List.getElem?_eq_getElem (by omega)⟩
        have hkid : kidD d n (bs n.keys k) = allD d x := by unfold kidD kidP; rw [hx]
        have hm := List.mem_of_getElem? hx
        rw [hl, hx, if_neg (by simp), hkid]
        rw [hkid] at hks
        show nextN d x k (stepO n k o) = _
        rw [next_eq d x 1 k _ (nOk_kid hn x hm) (h5 x hm).2 hks, hstep]
        cases (allD d x).find? (geP k) <;> rfl
/-! ### an index that is checked, as a list -/
theorem pairs_sorted (d : Nat) (n : Node) : SortedKV (pairsN d n) := by
  unfold pairsN
  split
  · rename_i h
    unfold checkN at h
    split at h
    · cases h
    · exact (chkL_sorted _ _ h).1
  · exact List.Pairwise.nil
theorem pairs_all {d : Nat} {n : Node} (h : checkN d n = true) : pairsN d n = allD d n := by unfold pairsN; rw [if_pos h]
theorem keysN_eq (d : Nat) (n : Node) : keysN d n = (pairsN d n).map (·.1) := by unfold keysN pairsN; split <;> rfl
theorem findA_eq {d : Nat} {n : Node} (hn : nOk d n) (k : List UInt8) : findA d n k = ((pairsN d n).find? (eqP k)).map (·.2) := by
  have hs := pairs_sorted d n
  unfold findA
  unfold pairsN at hs ⊢
  split
  · rename_i h
    rw [if_pos h] at hs
    exact find_eq d n 0 k hn (check_deep h) hs
  · rfl
theorem nextA_eq {d : Nat} {n : Node} (hn : nOk d n) (k : List UInt8) : nextA d n k = ((pairsN d n).find? (geP k)).map (·.1) := by
  have hs := pairs_sorted d n
  unfold nextA
  unfold pairsN at hs ⊢
  split
  · rename_i h
    rw [if_pos h] at hs
    rw [next_eq d n 0 k none hn (check_deep h) hs]
    cases (allD d n).find? (geP k) <;> rfl
  · rfl
theorem pairs_len {d : Nat} {n : Node} (hd : d ≤ 16) (hn : nOk d n) : (pairsN d n).length < 4294967296 := by
  unfold pairsN
  split
  · rename_i h
    exact check_len hd hn h
  · decide
theorem pairs_mem {d : Nat} {n : Node} (hn : nOk d n) : ∀ p ∈ pairsN d n, p.1.length ≤ 1000000 ∧ p.2.length < 100000 := by
  intro p hp
  unfold pairsN at hp
  split at hp
  · exact ⟨(allD_mem d n hn p hp).1, (allD_mem d n hn p hp).2.1⟩
  · cases hp
theorem sorted_inj {l : List KV} (hs : SortedKV l) {p q : KV} (hp : p ∈ l) (hq : q ∈ l) (h : p.1 = q.1) : p = q := by
  obtain ⟨i, hi⟩ := List.mem_iff_getElem?.1 hp
  obtain ⟨j, hj⟩ := List.mem_iff_getElem?.1 hq
  obtain ⟨hi', rfl⟩ := List.getElem?_eq_some_iff.1 hi
  obtain ⟨hj', rfl⟩ := List.getElem?_eq_some_iff.1 hj
  have hg := List.pairwise_iff_getElem.1 hs
  rcases Nat.lt_trichotomy i j with h1 | h1 | h1
  · have := hg i j hi' hj' h1
    rw [h, cm_self] at this; omega
  · subst h1; rfl
  · have := hg j i hj' hi' h1
    rw [h, cm_self] at this; omega
theorem find_self {l : List KV} (hs : SortedKV l) {p : KV} (hp : p ∈ l) : l.find? (eqP p.1) = some p := by
  cases h : l.find? (eqP p.1) with
  | none =>
    rw [List.find?_eq_none] at h
    exact absurd (by unfold eqP; rw [cm_self]; rfl) (h p hp)
  | some q =>
    have h1 := List.find?_some h
    have h2 := List.mem_of_find?_eq_some h
    unfold eqP at h1
    rw [sorted_inj hs hp h2 ((cm_eq _ _).1 (of_decide_eq_true h1)).symm]
theorem first_ge {l : List KV} (hs : SortedKV l) {k : List UInt8} {p : KV} (h : l.find? (geP k) = some p) : p ∈ l ∧ 0 ≤ cm p.1 k ∧ ∀ q ∈ l, 0 ≤ cm q.1 k → 0 ≤ cm q.1 p.1 := by
  refine ⟨List.mem_of_find?_eq_some h, of_decide_eq_true (show geP k p = true from List.find?_some h), fun q hq hk => ?_⟩
  obtain ⟨_, l1, l2, rfl, has⟩ := List.find?_eq_some_iff_append.1 h
  rcases List.mem_append.1 hq with hq | hq
  · have := has q hq
    unfold geP at this
    simp at this; omega
  · rcases List.mem_cons.1 hq with rfl | hq
    · rw [cm_self]; exact Int.le_refl _
    · have := (List.pairwise_append.1 hs).2.1
      rw [List.pairwise_cons] at this
      have := this.1 q hq
      have := cm_flip p.1 q.1
      omega
theorem finds_law {d : Nat} {n : Node} (hn : nOk d n) (k : List UInt8) :
    (nextA d n k = none ∧ findA d n k = none ∧ ∀ a ∈ keysN d n, cm a k < 0) ∨
    ∃ x, nextA d n k = some x ∧ 0 ≤ cm x k ∧ (findA d n k).isSome = decide (cm x k = 0) ∧ ∀ a ∈ keysN d n, 0 ≤ cm a k → 0 ≤ cm a x := by
  have hs := pairs_sorted d n
  rw [nextA_eq hn, findA_eq hn, keysN_eq]
  generalize pairsN d n = l at hs
  cases h : l.find? (geP k) with
  | none =>
    rw [List.find?_eq_none] at h
    have hlt : ∀ p ∈ l, cm p.1 k < 0 := fun p hp => by have := h p hp; unfold geP at this; simp at this; exact this
    refine .inl ⟨rfl, ?_, fun a ha => ?_⟩
    · rw [find_none fun p hp => eqP_lt (hlt p hp)]; rfl
    · obtain ⟨p, hp, rfl⟩ := List.mem_map.1 ha
      exact hlt p hp
  | some p =>
    obtain ⟨h1, h2, h3⟩ := first_ge hs h
    refine .inr ⟨p.1, rfl, h2, ?_, fun a ha => ?_⟩
    · by_cases h0 : cm p.1 k = 0
      · have := (cm_eq _ _).1 h0
        subst this
        rw [find_self hs h1, cm_self]; rfl
      · rw [decide_eq_false h0, find_none fun q hq => ?_]
        · rfl
        · unfold eqP
          apply decide_eq_false
          intro h4
          have h5 := h3 q hq (by omega)
          rw [(cm_eq _ _).1 h4] at h5
          have := cm_flip p.1 k
          omega
    · obtain ⟨q, hq, rfl⟩ := List.mem_map.1 ha
      exact h3 q hq
/-! ### keys one behind the other -/
theorem cm_snoc0 : ∀ a b : List UInt8, cm a (b ++ [0]) < 0 ↔ cm a b ≤ 0
  | [], [] => by decide
  | [], b :: bs => by rw [List.cons_append, cm_nc, cm_nc]; decide
  | x :: xs, [] => by
    rw [List.nil_append, cm_cc, cm_cn]
    have h : ¬ x < 0 := by rw [u8]; simp
    rw [if_neg h]
    split
    · decide
    · cases xs with
      | nil => rw [cm_nn]; decide
      | cons y ys => rw [cm_cn]; decide
  | x :: xs, b :: bs => by
    rw [List.cons_append, cm_cc, cm_cc]
    split
    · decide
    · split
      · decide
      · exact cm_snoc0 xs bs
theorem cm_nil_ge (a : List UInt8) : 0 ≤ cm a [] := by
  cases a with
  | nil => rw [cm_nn]; decide
  | cons => rw [cm_cn]; decide
theorem find_at {α : Type} {P : α → Bool} : ∀ (l : List α) (i : Nat), (∀ t x, t < i → l[t]? = some x → P x = false) → (∀ x, l[i]? = some x → P x = true) → i ≤ l.length → l.find? P = l[i]?
  | [], i, _, _, _ => by simp
  | x :: xs, 0, _, h2, _ => by rw [List.find?_cons_of_pos (h2 x rfl)]; rfl
  | x :: xs, i + 1, h1, h2, h3 => by
    rw [List.find?_cons_of_neg (by rw [h1 0 x (by omega) rfl]; exact fun h => nomatch h)]
    rw [find_at xs i (fun t y ht hy => h1 (t + 1) y (by omega) hy) h2 (by simpa using h3)]
    rfl
def atK (l : List (List UInt8)) : Nat → List UInt8
  | 0 => []
  | i + 1 => l.getD i [] ++ [0]
theorem order_next {d : Nat} {n : Node} (hn : nOk d n) {i : Nat} (hi : i ≤ (keysN d n).length) : nextA d n (atK (keysN d n) i) = (keysN d n)[i]? := by
  have hs := pairs_sorted d n
  rw [nextA_eq hn]
  rw [keysN_eq] at hi ⊢
  generalize pairsN d n = l at hs hi
  rw [List.length_map] at hi
  have hg := List.pairwise_iff_getElem.1 hs
  rw [List.getElem?_map, find_at l i ?_ ?_ hi]
  · intro t x ht hx
    obtain ⟨h1, rfl⟩ := List.getElem?_eq_some_iff.1 hx
    apply geP_lt
    cases i with
    | zero => omega
    | succ i =>
      show cm l[t].1 (((l.map (·.1)).getD i []) ++ [0]) < 0
      rw [cm_snoc0, List.getD_eq_getElem?_getD, List.getElem?_map, List.getElem?_eq_getElem (by omega)]
      show cm l[t].1 l[i].1 ≤ 0
      rcases Nat.lt_or_ge t i with h | h
      · have := hg t i (by omega) (by omega) h; omega
      · obtain rfl : t = i := by omega
        rw [cm_self]; exact Int.le_refl _
  · intro x hx
    obtain ⟨h1, rfl⟩ := List.getElem?_eq_some_iff.1 hx
    apply decide_eq_true
    cases i with
    | zero => exact cm_nil_ge _
    | succ i =>
      apply Int.not_lt.1
      show ¬ cm l[i + 1].1 (((l.map (·.1)).getD i []) ++ [0]) < 0
      rw [cm_snoc0, List.getD_eq_getElem?_getD, List.getElem?_map, List.getElem?_eq_getElem (by omega)]
      show ¬ cm l[i + 1].1 l[i].1 ≤ 0
      have := hg i (i + 1) (by omega) (by omega) (by omega)
      have := cm_flip l[i].1 l[i + 1].1
      omega
theorem keys_less {d : Nat} {n : Node} {i : Nat} {a b : List UInt8} (ha : (keysN d n)[i]? = some a) (hb : (keysN d n)[i + 1]? = some b) : cm a b < 0 := by
  have hs := pairs_sorted d n
  rw [keysN_eq, List.getElem?_map] at ha hb
  obtain ⟨p, hp, rfl⟩ := Option.map_eq_some_iff.1 ha
  obtain ⟨q, hq, rfl⟩ := Option.map_eq_some_iff.1 hb
  obtain ⟨h1, rfl⟩ := List.getElem?_eq_some_iff.1 hp
  obtain ⟨h2, rfl⟩ := List.getElem?_eq_some_iff.1 hq
  exact List.pairwise_iff_getElem.1 hs i (i + 1) h1 h2 (by omega)
/-! ### the document's answers -/
theorem findAt_spec : ∀ (l : List KV) (k : List UInt8) (i : Nat), (l.find? (eqP k) = none ∧ findAt l k i = -1) ∨ ∃ t p, l[t]? = some p ∧ l.find? (eqP k) = some p ∧ findAt l k i = ((i + t : Nat) : Int)
  | [], k, i => .inl ⟨rfl, rfl⟩
  | p :: ps, k, i => by
    unfold findAt
    rw [eqB_eq]
    by_cases h : cm p.1 k = 0
    · refine .inr ⟨0, p, rfl, ?_, by rw [decide_eq_true h]; rfl⟩
      rw [List.find?_cons_of_pos (by exact decide_eq_true h)]
    · rw [decide_eq_false h, List.find?_cons_of_neg (by unfold eqP; rw [decide_eq_false h]; exact fun h => nomatch h)]
      rcases findAt_spec ps k (i + 1) with ⟨h1, h2⟩ | ⟨t, q, h1, h2, h3⟩
      · exact .inl ⟨h1, h2⟩
      · refine .inr ⟨t + 1, q, h1, h2, ?_⟩
        show findAt ps k (i + 1) = _
        rw [h3]; omega
theorem nextAt_spec : ∀ (l : List KV) (k : List UInt8) (i : Nat), (l.find? (geP k) = none ∧ nextAt l k i = i + l.length) ∨ ∃ t p, l[t]? = some p ∧ l.find? (geP k) = some p ∧ nextAt l k i = i + t
  | [], k, i => .inl ⟨rfl, rfl⟩
  | p :: ps, k, i => by
    unfold nextAt
    rw [ltB_eq]
    by_cases h : cm p.1 k < 0
    · rw [decide_eq_true h, List.find?_cons_of_neg (by rw [geP_lt h]; exact fun h => nomatch h)]
      rcases nextAt_spec ps k (i + 1) with ⟨h1, h2⟩ | ⟨t, q, h1, h2, h3⟩
      · refine .inl ⟨h1, ?_⟩
        show nextAt ps k (i + 1) = _
        rw [h2, List.length_cons]; omega
      · refine .inr ⟨t + 1, q, h1, h2, ?_⟩
        show nextAt ps k (i + 1) = _
        rw [h3]; omega
    · rw [decide_eq_false h]
      refine .inr ⟨0, p, rfl, ?_, rfl⟩
      rw [List.find?_cons_of_pos (by exact decide_eq_true (Int.not_lt.1 h))]
theorem badV_self (x : Ver) : badV x x = false := by unfold badV; rw [eqB_eq, cm_self]; simp
theorem sameF_self {α : Type} {bad : α → α → Bool} (h : ∀ x, bad x x = false) : ∀ l : List α, sameF bad l l = true
  | [] => rfl
  | x :: xs => by unfold sameF; rw [h x]; exact sameF_self h xs
theorem sameVs_self (l : List Ver) : sameVs l l = true := by unfold sameVs; rw [sameF_self badV_self]; simp
theorem badP_self (p : KV) : badP p p = false := by unfold badP; rw [eqB_eq, cm_self, sameVs_self]; rfl
theorem sameKV_self (l : List KV) : sameKV l l = true := by unfold sameKV; rw [sameF_self badP_self]; simp
theorem lawPairs_eq {d : Nat} {n : Node} (hn : nOk d n) : lawPairs d n = pairsN d n := by
  unfold lawPairs
  rw [keysN_eq, List.map_map]
  have : ∀ p ∈ pairsN d n, ((fun k => (k, (findA d n k).getD [])) ∘ (·.1)) p = p := fun p hp => by
    show (p.1, (findA d n p.1).getD []) = p
    rw [findA_eq hn, find_self (pairs_sorted d n) hp]; rfl
  rw [List.map_congr_left this]
  exact List.map_id' _
/-! ### how many -/
theorem flat_ge {α : Type} {f : Nat → List α} {c : Nat} : ∀ (m : Nat), (∀ i, i < m → c ≤ (f i).length) → m * c ≤ ((List.range m).flatMap f).length
  | 0, _ => by simp
  | m + 1, h => by
    rw [List.range_succ, List.flatMap_append, List.length_append, Nat.succ_mul]
    have h1 := flat_ge m (fun i hi => h i (by omega))
    have h2 := h m (by omega)
    simpa using Nat.add_le_add h1 h2
theorem bounds : ∀ (d : Nat) (n : Node) (least : Int), nOk d n → deepN n least ≠ 0 → ∃ e : Nat, deepN n least = ((e + 1 : Nat) : Int) ∧ (allD d n).length + 1 ≤ 4 ^ (e + 1) ∧ (1 ≤ n.keys.length → 2 ^ (e + 1) ≤ (allD d n).length + 1) ∧ (n.keys.length = 0 → e = 0 ∧ (allD d n).length = 0)
  | 0, n, _, h, _ => h.elim
  | d + 1, n, least, hn, hd => by
    obtain ⟨hc, h2, h3, h4⟩ := deep_parts hd
    have hkid : ∃ e : Nat, deepN n least = ((e + 1 : Nat) : Int) ∧ (n.keys.length = 0 → e = 0) ∧ ∀ i, i ≤ n.keys.length → (kidD d n i).length + 1 ≤ 4 ^ e ∧ 2 ^ e ≤ (kidD d n i).length + 1 := by
      rcases h4 with ⟨h4, h5⟩ | ⟨h4, h5, h6⟩
      · refine ⟨0, h5, fun _ => rfl, fun i _ => ?_⟩
        have : kidD d n i = [] := by unfold kidD kidP; rw [h4]; rfl
        rw [this]; decide
      · obtain ⟨x, hx⟩ : ∃ x, n.kids[0]? = some x := ⟨_, List.getElem?_eq_getElem (by omega)⟩
        have hm := List.mem_of_getElem? hx
        obtain ⟨e, he, _⟩ := bounds d x 1 (nOk_kid hn x hm) (h6 x hm).2
        refine ⟨e + 1, ?_, fun h => absurd h h5, fun i hi => ?_⟩
        · have := (h6 x hm).1; omega
        · obtain ⟨y, hy⟩ : ∃ y, n.kids[i]? = some y := ⟨_, List.getElem?_eq_getElem (by omega)⟩
          have hm' := List.mem_of_getElem? hy
          obtain ⟨e', he', b1, b2, _⟩ := bounds d y 1 (nOk_kid hn y hm') (h6 y hm').2
          have hee : e' = e := by have := (h6 x hm).1; have := (h6 y hm').1; omega
          subst hee
          have : kidD d n i = allD d y := by unfold kidD kidP; rw [hy]
          rw [this]
          refine ⟨b1, b2 ?_⟩
          have := (deep_parts (h6 y hm').2).2.2.1
          omega
    obtain ⟨e, he, h0, hk⟩ := hkid
    have hpair : ∀ i, i < n.keys.length → (pairD n i).length = 1 := fun i hi => by
      obtain ⟨c, _, h⟩ := pairD_at hc (List.getElem?_eq_getElem hi)
      rw [h]; rfl
    have hlast : pairD n n.keys.length = [] := pairD_end (Nat.le_refl _)
    have hlen : (allD (d + 1) n).length = ((List.range n.keys.length).flatMap (segD d n)).length + (kidD d n n.keys.length).length := by
      show ((List.range (n.keys.length + 1)).flatMap (segD d n)).length = _
      rw [List.range_succ, List.flatMap_append, List.length_append]
      simp [segD, hlast]
    have hA := flat_len (f := segD d n) (c := 4 ^ e) n.keys.length (fun i hi => by
      have := (hk i (by omega)).1; have := hpair i hi; unfold segD; rw [List.length_append]; omega)
    have hB := flat_ge (f := segD d n) (c := 2 ^ e) n.keys.length (fun i hi => by
      have := (hk i (by omega)).2; have := hpair i hi; unfold segD; rw [List.length_append]; omega)
    obtain ⟨hl1, hl2⟩ := hk n.keys.length (Nat.le_refl _)
    refine ⟨e, he, ?_, fun h => ?_, fun h => ?_⟩
    · have : n.keys.length * 4 ^ e ≤ 3 * 4 ^ e := Nat.mul_le_mul_right _ h2
      rw [Nat.pow_succ]; omega
    · have : 1 * 2 ^ e ≤ n.keys.length * 2 ^ e := Nat.mul_le_mul_right _ h
      rw [Nat.pow_succ]; omega
    · have h0 := h0 h
      subst h0
      rw [h] at hlen hl1 hA
      refine ⟨rfl, ?_⟩
      rw [hlen]
      simp at hl1 hA ⊢
      omega
end Go.Proofs.Ve

/- TreeFinds' walk. -/
set_option maxRecDepth 100000
set_option maxHeartbeats 4000000
set_option linter.all false
namespace Go.Proofs.Ve
open Go
theorem t_finds (n : Node) (key : List UInt8) (H : List (List Blk)) : CallEq X H 9 [pNode n, .d (encB key)] (.d (.bool true)) [] := by
  have hkl : (key.map fun x : UInt8 => [DV.int .u8 x.toNat]).length = key.length := by rw [List.length_map]
  cases hs : smallN 5 n with
  | false =>
    have hsm : ∀ H, CallEq X H _ _ _ [] := fun H => hs ▸ d_small0 n H
    refine callEq_of_body X_ok rfl Try.func9 rfl ?_
    conv => whnf
    refine ⟨_, _, d_awake _, True.intro, ?_⟩
    conv => whnf
    refine ⟨_, _, hsm _, True.intro, ?_⟩
    conv => whnf
    repeat' (first
      | (exfalso; revert h_; decide)
      | (refine And.intro (fun h_ => ?_) (fun h_ => ?_) <;> (conv => whnf))
      | (refine ⟨[0], rfl, ?_, True.intro⟩
         (repeat' (first | exact True.intro | exact rfl | refine And.intro ?_ ?_))
         done)
      | (refine ⟨[], rfl, ?_, True.intro⟩
         (repeat' (first | exact True.intro | exact rfl | refine And.intro ?_ ?_))
         done)
      | fail)
  | true =>
    have hsm : ∀ H, CallEq X H _ _ _ [] := fun H => hs ▸ d_small0 n H
    have hn := smallN_ok 5 n hs
    cases hc : checkN 5 n with
    | false =>
      have hck : ∀ H, CallEq X H _ _ _ [] := fun H => hc ▸ d_check 5 n (by decide) hn H
      refine callEq_of_body X_ok rfl Try.func9 rfl ?_
      conv => whnf
      refine ⟨_, _, d_awake _, True.intro, ?_⟩
      conv => whnf
      refine ⟨_, _, hsm _, True.intro, ?_⟩
      conv => whnf
      repeat' (first
        | (exfalso; revert h_; decide)
        | (refine And.intro (fun h_ => ?_) (fun h_ => ?_) <;> (conv => whnf))
        | (refine ⟨_, _, hck _, True.intro, ?_⟩; conv => whnf)
        | (refine ⟨[0], rfl, ?_, True.intro⟩
           (repeat' (first | exact True.intro | exact rfl | refine And.intro ?_ ?_))
           done)
        | (refine ⟨[], rfl, ?_, True.intro⟩
           (repeat' (first | exact True.intro | exact rfl | refine And.intro ?_ ?_))
           done)
        | fail)
    | true =>
      have hck : ∀ H, CallEq X H _ _ _ [] := fun H => hc ▸ d_check 5 n (by decide) hn H
      have hF := fun H => d_find 5 n key (by decide) hn H
      have hN := fun H => d_next 5 n key (by decide) hn H
      have hK := fun H => d_keys 5 n (by decide) hn H
      have law := finds_law hn key
      have hlen : (keysN 5 n).length < 4294967296 := by rw [keysN_eq, List.length_map]; exact pairs_len (by decide) hn
      generalize keysN 5 n = ks at hK law hlen
      generalize findA 5 n key = F at hF law
      generalize nextA 5 n key = N at hN law
      refine callEq_of_body X_ok rfl Try.func9 rfl ?_
      conv => whnf
      refine ⟨_, _, d_awake _, True.intro, ?_⟩
      conv => whnf
      refine ⟨_, _, hsm _, True.intro, ?_⟩
      conv => whnf
      rcases law with ⟨rfl, rfl, law⟩ | ⟨x, rfl, hxk, hfx, law⟩
      · have law : ∀ a ∈ ks, (!ltB a key) = false := fun a ha => by rw [ltB_eq, decide_eq_true (law a ha)]; rfl
        repeat' (first
          | (exfalso; revert h_; decide)
          | (refine And.intro (fun h_ => ?_) (fun h_ => ?_) <;> (conv => whnf))
          | (refine ⟨_, _, hck _, True.intro, ?_⟩; conv => whnf)
          | (refine ⟨_, _, hF _, True.intro, ?_⟩; conv => whnf)
          | (refine ⟨_, _, hN _, True.intro, ?_⟩; conv => whnf)
          | (refine ⟨_, _, hK _, True.intro, ?_⟩; conv => whnf)
          | (refine ⟨[0], rfl, ?_, True.intro⟩
             (repeat' (first | exact True.intro | exact rfl | refine And.intro ?_ ?_))
             done)
          | (refine ⟨[], rfl, ?_, True.intro⟩
             (repeat' (first | exact True.intro | exact rfl | refine And.intro ?_ ?_))
             done)
          | fail)
        refine loopV_of (fun i : Nat => ⟨[.any, .d (encB key), .ptr 0 0 0, .any, .any, .d (.bool true), .any, .d (.bool false), .d (encB []), .d (.bool false), .d (encKs ks), .d (.int .i64 i), .any, .any, .any, .any, .any, .any, .any, .any, .any, .any, .any, .any, .any, .any, .any, .any, .any, .any, .any, .any, .any, .any, .any, .any, .any, .any, .any, .any, .any, .any, .any, .any, .any, .any, .any, .any, .any, .any, .any, .any, .any, .any, .any, .any, .any, .any, .any, .any, .any, .any, .any, .any, .any, .any, .any, .any, .any, .any, .any, .any, .any, .any, .any, .any, .any, .any, .any, .any, .any, .any, .any, .any, .any, .any, .any, .any, .any, .any, .any, .any, .any], [bNode n]⟩) (fun i => i ≤ ks.length) (fun i => ks.length - i) 0 [0] (Nat.zero_le _) ?_ ?_
        · refine And.intro rfl (And.intro ?_ ?_)
          all_goals (repeat' (first | exact True.intro | exact rfl | refine And.intro ?_ ?_))
        · intro i hi
          have w1 : IntKind.i64.wrap (((i : Nat) : Int) + 1) = ((i + 1 : Nat) : Int) := by rw [wrap_small (by omega) (by omega)]; omega
          conv => whnf
          refine And.intro (fun q => ?_) (fun q => ?_) <;> (conv => whnf)
          · have hi' : i < ks.length := by simp at q; omega
            obtain ⟨a, ha⟩ : ∃ x, ks[i]? = some x := ⟨_, List.getElem?_eq_getElem hi'⟩
            have hge : (0 : Int) ≤ ((i : Nat) : Int) := by omega
            have hgx : (ks.map fun k => [encB k])[((i : Nat) : Int).toNat]? = some [encB a] := by rw [Int.toNat_natCast, List.getElem?_map, ha]; rfl
            have law := law a (List.mem_of_getElem? ha)
            unfold ltB toBA at law
            repeat' (first
              | (exfalso; revert h_; decide)
              | exact absurd (law.symm.trans h_) (by decide)
              | (refine And.intro (fun h_ => ?_) (fun h_ => ?_) <;> (conv => whnf))
              | (refine ⟨hge, [encB a], hgx, rfl, ?_⟩; conv => whnf)
              | (refine ⟨a, rfl, ?_⟩; conv => whnf)
              | (refine ⟨key, rfl, ?_⟩; conv => whnf)
              | (intro z hz; conv => whnf
                 rw [w1] at hz; subst hz)
              | (refine ⟨i + 1, [0], hi', (by omega), And.intro rfl (And.intro ?_ ?_)⟩
                 all_goals (repeat' (first | exact True.intro | exact rfl | refine And.intro ?_ ?_))
                 done)
              | fail)
          · repeat' (first
              | (exfalso; revert h_; decide)
              | (refine And.intro (fun h_ => ?_) (fun h_ => ?_) <;> (conv => whnf))
              | (refine ⟨[0], rfl, ?_, True.intro⟩
                 show DV.bool _ = DV.bool true
                 refine congrArg DV.bool ?_)
              | (refine ⟨[], rfl, ?_, True.intro⟩
                 show DV.bool _ = DV.bool true
                 refine congrArg DV.bool ?_)
              | fail)
            all_goals rfl
      · have e : F.isSome = eqB x key := by rw [hfx, eqB_eq]
        unfold ansV at hF
        simp only [e] at hF
        generalize hb : eqB x key = b at hF
        have hge0 : (!ltB x key) = true := by rw [ltB_eq, decide_eq_false (by omega)]; rfl
        have law : ∀ a ∈ ks, (!ltB a key) = true → ltB a x = false := fun a ha h => by
          rw [ltB_eq] at h
          rw [ltB_eq]
          have := law a ha (by simpa using h)
          exact decide_eq_false (by omega)
        unfold ltB toBA at hge0
        unfold eqB toBA at hb
        repeat' (first
          | (exfalso; revert h_; decide)
          | (refine And.intro (fun h_ => ?_) (fun h_ => ?_) <;> (conv => whnf))
          | (refine ⟨_, _, hck _, True.intro, ?_⟩; conv => whnf)
          | (refine ⟨_, _, hF _, True.intro, ?_⟩; conv => whnf)
          | (refine ⟨_, _, hN _, True.intro, ?_⟩; conv => whnf)
          | (refine ⟨_, _, hK _, True.intro, ?_⟩; conv => whnf)
          | (refine ⟨[0], rfl, ?_, True.intro⟩
             (repeat' (first | exact True.intro | exact rfl | refine And.intro ?_ ?_))
             done)
          | (refine ⟨[], rfl, ?_, True.intro⟩
             (repeat' (first | exact True.intro | exact rfl | refine And.intro ?_ ?_))
             done)
          | fail)
        refine loopV_of (fun i : Nat => ⟨[.any, .d (encB key), .ptr 0 0 0, .any, .any, .d (.bool true), .any, .d (.bool b), .d (encB x), .d (.bool true), .d (encKs ks), .d (.int .i64 i), .any, .any, .any, .any, .any, .any, .any, .any, .any, .any, .any, .any, .any, .any, .any, .any, .any, .any, .any, .any, .any, .any, .any, .any, .any, .any, .any, .any, .any, .any, .any, .any, .any, .any, .any, .any, .any, .any, .any, .any, .any, .any, .any, .any, .any, .any, .any, .any, .any, .any, .any, .any, .any, .any, .any, .any, .any, .any, .any, .any, .any, .any, .any, .any, .any, .any, .any, .any, .any, .any, .any, .any, .any, .any, .any, .any, .any, .any, .any, .any, .any], [bNode n]⟩) (fun i => i ≤ ks.length) (fun i => ks.length - i) 0 [0] (Nat.zero_le _) ?_ ?_
        · refine And.intro rfl (And.intro ?_ ?_)
          all_goals (repeat' (first | exact True.intro | exact rfl | refine And.intro ?_ ?_))
        · intro i hi
          have w1 : IntKind.i64.wrap (((i : Nat) : Int) + 1) = ((i + 1 : Nat) : Int) := by rw [wrap_small (by omega) (by omega)]; omega
          conv => whnf
          refine And.intro (fun q => ?_) (fun q => ?_) <;> (conv => whnf)
          · have hi' : i < ks.length := by simp at q; omega
            obtain ⟨a, ha⟩ : ∃ x, ks[i]? = some x := ⟨_, List.getElem?_eq_getElem hi'⟩
            have hge : (0 : Int) ≤ ((i : Nat) : Int) := by omega
            have hgx : (ks.map fun k => [encB k])[((i : Nat) : Int).toNat]? = some [encB a] := by rw [Int.toNat_natCast, List.getElem?_map, ha]; rfl
            have law := law a (List.mem_of_getElem? ha)
            unfold ltB toBA at law
            repeat' (first
              | (exfalso; revert h_; decide)
              | exact absurd ((law (by assumption)).symm.trans h_) (by decide)
              | (refine And.intro (fun h_ => ?_) (fun h_ => ?_) <;> (conv => whnf))
              | (refine ⟨hge, [encB a], hgx, rfl, ?_⟩; conv => whnf)
              | (refine ⟨a, rfl, ?_⟩; conv => whnf)
              | (refine ⟨key, rfl, ?_⟩; conv => whnf)
              | (refine ⟨x, rfl, ?_⟩; conv => whnf)
              | (intro z hz; conv => whnf
                 rw [w1] at hz; subst hz)
              | (refine ⟨i + 1, [0], hi', (by omega), And.intro rfl (And.intro ?_ ?_)⟩
                 all_goals (repeat' (first | exact True.intro | exact rfl | refine And.intro ?_ ?_))
                 done)
              | fail)
          · repeat' (first
              | (exfalso; revert h_; decide)
              | (refine And.intro (fun h_ => ?_) (fun h_ => ?_) <;> (conv => whnf))
              | (refine ⟨x, rfl, ?_⟩; conv => whnf)
              | (refine ⟨key, rfl, ?_⟩; conv => whnf)
              | (refine ⟨[0], rfl, ?_, True.intro⟩
                 show DV.bool _ = DV.bool true
                 refine congrArg DV.bool ?_)
              | (refine ⟨[], rfl, ?_, True.intro⟩
                 show DV.bool _ = DV.bool true
                 refine congrArg DV.bool ?_)
              | fail)
            all_goals first
              | exact hge0
              | (subst hb; rw [beq_self_eq_true] at h_; exact absurd h_ (by decide))
end Go.Proofs.Ve

/- The row of TreeFinds: its walk's contract, lifted. -/
set_option linter.all false
set_option maxRecDepth 100000
namespace Go.Proofs.Ytingjgfoihjelaa.treeFinds
open Go Go.Proofs.Ve Go.ChangeShapes Go.WideShapes Go.ChangeAt Go.RowKit
theorem own : ownKnob Try.prog.godebug = none := by kernel_rfl
theorem laidOut : laidOutB Try.prog = true := by kernel_rfl
theorem lifted (os : Os) (started : os.Started) (H : Type) (enc : TypeId × Value → H) :
    ReturnsInHanded {} Try.checked os 9 .any (Rows.treeFindsSpec.pre6 enc Try.prog Try.f9 Rows.treeFindsRow.domain false) (Rows.treeFindsSpec.post enc Try.prog Try.f9 false true false false) := by
  refine returnsInHanded_of_change_sized (C := Try.checked) own started (by kernel_rfl) Try.func9
    (ChangeSpec.witness6 (enc := enc) (C := Try.checked) false ⟨#[], #[.agg #[.slice none 0 0, .slice none 0 0, .slice none 0 0], .slice none 0 0], []⟩ 8 (by kernel_rfl) (by kernel_rfl) (by kernel_rfl) (by kernel_rfl)) ?_
  intro W base args ds gs before hval0 hW hcnd hsz0 _
  have hval : ∀ (j : Nat) t v, Try.f9.params[j]? = some t → args[j]? = some v → Value.okWide Try.prog W .any base t v := hval0
  have hW' := hW
  obtain ⟨p, q, hA0, hV, rfl, hfz, hnd⟩ := hW
  have hA : DataW.TrodAll enc Try.prog W 0 (fun _ => true) true Try.f9.params.toList args.toList ds p := hA0
  rw [Try.params9] at hA hval
  obtain ⟨v0, vs0, d0, ds0, p0, q0, hargs, rfl, rfl, h0, r0⟩ := trodAll_cons hA
  obtain ⟨v1, vs1, d1, ds1, p1, q1, rfl, rfl, rfl, h1, r1⟩ := trodAll_cons r0
  obtain ⟨rfl, rfl, rfl⟩ := trodAll_nil r1
  obtain rfl : args = #[v0, v1] := by cases args; simp_all
  obtain ⟨rfl, rfl⟩ := trodVars_none hV
  obtain ⟨x0, rp0⟩ := tree_arg (hval 0 _ v0 rfl rfl) h0
  have lt0 : ∀ x ∈ p0, x.block < W.heap.size := by obtain ⟨m, hm⟩ := h0; exact DataW.trod_lt m _ _ _ hm
  obtain ⟨e1, fit1, rp1⟩ := arg_reads 12 (r := [.sl [.int .u8]]) (by kernel_rfl) (hval 1 _ v1 rfl rfl) h1
  obtain ⟨x1, hx1⟩ := fit_pbytes fit1
  have rp1 : RP (m0 W) _ v1 := hx1 ▸ rp1
  have lt1 : ∀ x ∈ p1, x.block < W.heap.size := by obtain ⟨m, hm⟩ := h1; exact DataW.trod_lt m _ _ _ hm
  have call : Calls Try.prog 9 #[v0, v1] W fun e W' => e = .returned (.bool true) ∧ Below W.heap.size W W' := by
    refine CallEq.calls (t_finds x0 x1 []) rfl ?_
    intro j p v hp hv
    match j with
    | 0 => cases hp; cases hv; exact rp0
    | 1 => cases hp; cases hv; exact rp1
    | j + 2 => cases hp
  refine call.mono fun e W' ⟨he, bel⟩ => ?_
  subst he
  exact ⟨_, rfl, _, _, _, [], _, [], hW', trodAll_mk1 (shut_bool Try.underlying4 _), (trodAll_cons_mk (Below.trod laidOut (by kernel_rfl) (of_decide_eq_true (by kernel_rfl)) h0 bel lt0) (trodAll_cons_mk (Below.trod laidOut (by kernel_rfl) (of_decide_eq_true (by kernel_rfl)) h1 bel lt1) trodAll_mk0)), rfl, bel.frame _, fun h => by cases h⟩
theorem over : Rows.treeFindsRow.holds Try.pinned (OpenSpec.ofChange Rows.treeFindsSpec) :=
  OpenClaim.holds_of_wide 9 Try.f9 rfl rfl rfl rfl rfl rfl rfl ⟨rfl, rfl, rfl, rfl, rfl⟩ rfl rfl rfl rfl rfl (by kernel_rfl) Try.func9 (by kernel_rfl)
    (of_decide_eq_true (by kernel_rfl)) (by unfold Func.isWrapper; first | (rw [if_pos (by decide +kernel)]; kernel_rfl) | (rw [if_neg (by decide +kernel)]; exact ⟨rfl, rfl⟩))
    (fun os started H enc _ => lifted os started H enc)
theorem proved : Rows.TreeFindsSaid := over
#print axioms proved
end Go.Proofs.Ytingjgfoihjelaa.treeFinds
namespace Go.Proofs.Ytingjgfoihjelaa
/-- The row, under a short name, for the claim. -/
theorem treeFinds_holds : Rows.TreeFindsSaid := treeFinds.proved
end Go.Proofs.Ytingjgfoihjelaa
