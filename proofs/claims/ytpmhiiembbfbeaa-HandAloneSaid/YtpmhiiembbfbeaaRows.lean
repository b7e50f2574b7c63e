/-
  No cell of these rows narrows 'for every input' (looked for: loops, veiled, ifaces, maps, wideKeys, modest, calm, conditions, laid).
  DERIVED. THE GIVEN ROWS OF THIS SEAT. 10 by the template 'for every input the law returns true; each argument reads behind the call as it read before'; 0 by the template 'total and deterministic' (their statements: YtpmhiiembbfbeaaTotals.lean).
  GIVEN WITH THE SEED: the statements are not yours to turn. If you find one false, say at which input.
  Laid BY PROGRAM, IN A SANDBOX (cutbox-rows.mjs): the forced cells as the released guide's own fill.sh prints them over the translation e1364a70536aac7c… (all of the seat's roots in one cut). By AI agents, Wed Nov 11 2026. No macro, syntax, notation, axiom, sorry.
-/
import Derived.Test.YtpmhiiembbfbeaaChecked
import GoSem.Claim
import GoSem.ClaimJoined
import GoSem.ClaimMapViews
import Derived.JoinedTies
import Derived.KernelRfl
namespace Go.Proofs.Ytpmhiiembbfbeaa
/- THE CELL 'sum', in the pinned program and in every row, IS THE sha256 OF THE DUMP (.gsa) THAT YtpmhiiembbfbeaaProg.lean LOADS. Nothing in Lean hashes anything: it is a label: what it is worth is what the hold of that sum in a sandbox is worth. -/
noncomputable def Try.pinned : Pinned := { name := "ytpmhiiembbfbeaa", sum := "e1364a70536aac7c1112f1e58513d07edea209b6880d593a9c134cbc1ea8e3ba", checked := Try.checked }
namespace Rows
def none {H : Type} : Left H := { results := [], args := [] }

/-- 'banksmanlaw11.LockTells': WHATEVER THE INPUT: true; the input reads as it did. -/
def lockTellsSpec : ChangeSpec := { name := "lockTells", fn := fun _ => fun
  | [d1, d2, d3, d4] => { results := [.lit (.bool true)], args := [d1, d2, d3, d4] }
  | _ => none }
def lockTellsRow : OpenClaim := { program := "ytpmhiiembbfbeaa", sum := "e1364a70536aac7c1112f1e58513d07edea209b6880d593a9c134cbc1ea8e3ba", func := "banksman/banksmanlaw11.LockTells", spec := "lockTells", inPlace := ["internal/bytealg.Compare"], unfollowed := true, recurses := true, apart := false }
def LockTellsSaid : Prop := lockTellsRow.holds Try.pinned (OpenSpec.ofChange lockTellsSpec)

/-- ITS FALSE NEIGHBOUR: 'it returns false'. Refute it at one input. -/
def lockTellsWrong : ChangeSpec := { name := "lockTells", fn := fun _ => fun
  | [d1, d2, d3, d4] => { results := [.lit (.bool false)], args := [d1, d2, d3, d4] }
  | _ => none }
def LockTellsWrongFalsely : Prop := lockTellsRow.holds Try.pinned (OpenSpec.ofChange lockTellsWrong)

/-- 'banksmanlaw11.LockMay': WHATEVER THE INPUT: true; the input reads as it did. -/
def lockMaySpec : ChangeSpec := { name := "lockMay", fn := fun _ => fun
  | [d] => { results := [.lit (.bool true)], args := [d] }
  | _ => none }
def lockMayRow : OpenClaim := { program := "ytpmhiiembbfbeaa", sum := "e1364a70536aac7c1112f1e58513d07edea209b6880d593a9c134cbc1ea8e3ba", func := "banksman/banksmanlaw11.LockMay", spec := "lockMay", inPlace := ["internal/bytealg.Compare"], unfollowed := true, recurses := true, apart := false }
def LockMaySaid : Prop := lockMayRow.holds Try.pinned (OpenSpec.ofChange lockMaySpec)

/-- ITS FALSE NEIGHBOUR: 'it returns false'. Refute it at one input. -/
def lockMayWrong : ChangeSpec := { name := "lockMay", fn := fun _ => fun
  | [d] => { results := [.lit (.bool false)], args := [d] }
  | _ => none }
def LockMayWrongFalsely : Prop := lockMayRow.holds Try.pinned (OpenSpec.ofChange lockMayWrong)

/-- 'banksmanlaw11.LockAlone': WHATEVER THE INPUT: true; the input reads as it did. -/
def lockAloneSpec : ChangeSpec := { name := "lockAlone", fn := fun _ => fun
  | [d1, d2] => { results := [.lit (.bool true)], args := [d1, d2] }
  | _ => none }
def lockAloneRow : OpenClaim := { program := "ytpmhiiembbfbeaa", sum := "e1364a70536aac7c1112f1e58513d07edea209b6880d593a9c134cbc1ea8e3ba", func := "banksman/banksmanlaw11.LockAlone", spec := "lockAlone", inPlace := ["internal/bytealg.Compare"], unfollowed := true, recurses := true, apart := false }
def LockAloneSaid : Prop := lockAloneRow.holds Try.pinned (OpenSpec.ofChange lockAloneSpec)

/-- ITS FALSE NEIGHBOUR: 'it returns false'. Refute it at one input. -/
def lockAloneWrong : ChangeSpec := { name := "lockAlone", fn := fun _ => fun
  | [d1, d2] => { results := [.lit (.bool false)], args := [d1, d2] }
  | _ => none }
def LockAloneWrongFalsely : Prop := lockAloneRow.holds Try.pinned (OpenSpec.ofChange lockAloneWrong)

/-- 'banksmanlaw12.WaitTells': WHATEVER THE INPUT: true; the input reads as it did. -/
def waitTellsSpec : ChangeSpec := { name := "waitTells", fn := fun _ => fun
  | [d1, d2, d3] => { results := [.lit (.bool true)], args := [d1, d2, d3] }
  | _ => none }
def waitTellsRow : OpenClaim := { program := "ytpmhiiembbfbeaa", sum := "e1364a70536aac7c1112f1e58513d07edea209b6880d593a9c134cbc1ea8e3ba", func := "banksman/banksmanlaw12.WaitTells", spec := "waitTells", inPlace := ["internal/bytealg.Compare"], unfollowed := true, recurses := true, apart := false }
def WaitTellsSaid : Prop := waitTellsRow.holds Try.pinned (OpenSpec.ofChange waitTellsSpec)

/-- ITS FALSE NEIGHBOUR: 'it returns false'. Refute it at one input. -/
def waitTellsWrong : ChangeSpec := { name := "waitTells", fn := fun _ => fun
  | [d1, d2, d3] => { results := [.lit (.bool false)], args := [d1, d2, d3] }
  | _ => none }
def WaitTellsWrongFalsely : Prop := waitTellsRow.holds Try.pinned (OpenSpec.ofChange waitTellsWrong)

/-- 'banksmanlaw12.WaitMore': WHATEVER THE INPUT: true; the input reads as it did. -/
def waitMoreSpec : ChangeSpec := { name := "waitMore", fn := fun _ => fun
  | [d1, d2, d3] => { results := [.lit (.bool true)], args := [d1, d2, d3] }
  | _ => none }
def waitMoreRow : OpenClaim := { program := "ytpmhiiembbfbeaa", sum := "e1364a70536aac7c1112f1e58513d07edea209b6880d593a9c134cbc1ea8e3ba", func := "banksman/banksmanlaw12.WaitMore", spec := "waitMore", inPlace := ["internal/bytealg.Compare"], unfollowed := true, recurses := true, apart := false }
def WaitMoreSaid : Prop := waitMoreRow.holds Try.pinned (OpenSpec.ofChange waitMoreSpec)

/-- ITS FALSE NEIGHBOUR: 'it returns false'. Refute it at one input. -/
def waitMoreWrong : ChangeSpec := { name := "waitMore", fn := fun _ => fun
  | [d1, d2, d3] => { results := [.lit (.bool false)], args := [d1, d2, d3] }
  | _ => none }
def WaitMoreWrongFalsely : Prop := waitMoreRow.holds Try.pinned (OpenSpec.ofChange waitMoreWrong)

/-- 'banksmanlaw12.WaitBreaks': WHATEVER THE INPUT: true; the input reads as it did. -/
def waitBreaksSpec : ChangeSpec := { name := "waitBreaks", fn := fun _ => fun
  | [d1, d2] => { results := [.lit (.bool true)], args := [d1, d2] }
  | _ => none }
def waitBreaksRow : OpenClaim := { program := "ytpmhiiembbfbeaa", sum := "e1364a70536aac7c1112f1e58513d07edea209b6880d593a9c134cbc1ea8e3ba", func := "banksman/banksmanlaw12.WaitBreaks", spec := "waitBreaks", inPlace := ["internal/bytealg.Compare"], unfollowed := true, recurses := true, apart := false }
def WaitBreaksSaid : Prop := waitBreaksRow.holds Try.pinned (OpenSpec.ofChange waitBreaksSpec)

/-- ITS FALSE NEIGHBOUR: 'it returns false'. Refute it at one input. -/
def waitBreaksWrong : ChangeSpec := { name := "waitBreaks", fn := fun _ => fun
  | [d1, d2] => { results := [.lit (.bool false)], args := [d1, d2] }
  | _ => none }
def WaitBreaksWrongFalsely : Prop := waitBreaksRow.holds Try.pinned (OpenSpec.ofChange waitBreaksWrong)

/-- 'banksmanlaw12.WaitLess': WHATEVER THE INPUT: true; the input reads as it did. -/
def waitLessSpec : ChangeSpec := { name := "waitLess", fn := fun _ => fun
  | [d1, d2] => { results := [.lit (.bool true)], args := [d1, d2] }
  | _ => none }
def waitLessRow : OpenClaim := { program := "ytpmhiiembbfbeaa", sum := "e1364a70536aac7c1112f1e58513d07edea209b6880d593a9c134cbc1ea8e3ba", func := "banksman/banksmanlaw12.WaitLess", spec := "waitLess", inPlace := ["internal/bytealg.Compare"], unfollowed := true, recurses := true, apart := false }
def WaitLessSaid : Prop := waitLessRow.holds Try.pinned (OpenSpec.ofChange waitLessSpec)

/-- ITS FALSE NEIGHBOUR: 'it returns false'. Refute it at one input. -/
def waitLessWrong : ChangeSpec := { name := "waitLess", fn := fun _ => fun
  | [d1, d2] => { results := [.lit (.bool false)], args := [d1, d2] }
  | _ => none }
def WaitLessWrongFalsely : Prop := waitLessRow.holds Try.pinned (OpenSpec.ofChange waitLessWrong)

/-- 'banksmanlaw16.HandHolds': WHATEVER THE INPUT: true; the input reads as it did. -/
def handHoldsSpec : ChangeSpec := { name := "handHolds", fn := fun _ => fun
  | [d1, d2, d3, d4] => { results := [.lit (.bool true)], args := [d1, d2, d3, d4] }
  | _ => none }
def handHoldsRow : OpenClaim := { program := "ytpmhiiembbfbeaa", sum := "e1364a70536aac7c1112f1e58513d07edea209b6880d593a9c134cbc1ea8e3ba", func := "banksman/banksmanlaw16.HandHolds", spec := "handHolds", inPlace := ["internal/bytealg.Compare"], unfollowed := true, recurses := true, apart := false }
def HandHoldsSaid : Prop := handHoldsRow.holds Try.pinned (OpenSpec.ofChange handHoldsSpec)

/-- ITS FALSE NEIGHBOUR: 'it returns false'. Refute it at one input. -/
def handHoldsWrong : ChangeSpec := { name := "handHolds", fn := fun _ => fun
  | [d1, d2, d3, d4] => { results := [.lit (.bool false)], args := [d1, d2, d3, d4] }
  | _ => none }
def HandHoldsWrongFalsely : Prop := handHoldsRow.holds Try.pinned (OpenSpec.ofChange handHoldsWrong)

/-- 'banksmanlaw16.HandBreaks': WHATEVER THE INPUT: true; the input reads as it did. -/
def handBreaksSpec : ChangeSpec := { name := "handBreaks", fn := fun _ => fun
  | [d1, d2] => { results := [.lit (.bool true)], args := [d1, d2] }
  | _ => none }
def handBreaksRow : OpenClaim := { program := "ytpmhiiembbfbeaa", sum := "e1364a70536aac7c1112f1e58513d07edea209b6880d593a9c134cbc1ea8e3ba", func := "banksman/banksmanlaw16.HandBreaks", spec := "handBreaks", inPlace := ["internal/bytealg.Compare"], unfollowed := true, recurses := true, apart := false }
def HandBreaksSaid : Prop := handBreaksRow.holds Try.pinned (OpenSpec.ofChange handBreaksSpec)

/-- ITS FALSE NEIGHBOUR: 'it returns false'. Refute it at one input. -/
def handBreaksWrong : ChangeSpec := { name := "handBreaks", fn := fun _ => fun
  | [d1, d2] => { results := [.lit (.bool false)], args := [d1, d2] }
  | _ => none }
def HandBreaksWrongFalsely : Prop := handBreaksRow.holds Try.pinned (OpenSpec.ofChange handBreaksWrong)

/-- 'banksmanlaw16.HandAlone': WHATEVER THE INPUT: true; the input reads as it did. -/
def handAloneSpec : ChangeSpec := { name := "handAlone", fn := fun _ => fun
  | [d1, d2] => { results := [.lit (.bool true)], args := [d1, d2] }
  | _ => none }
def handAloneRow : OpenClaim := { program := "ytpmhiiembbfbeaa", sum := "e1364a70536aac7c1112f1e58513d07edea209b6880d593a9c134cbc1ea8e3ba", func := "banksman/banksmanlaw16.HandAlone", spec := "handAlone", inPlace := ["internal/bytealg.Compare"], unfollowed := true, recurses := true, apart := false }
def HandAloneSaid : Prop := handAloneRow.holds Try.pinned (OpenSpec.ofChange handAloneSpec)

/-- ITS FALSE NEIGHBOUR: 'it returns false'. Refute it at one input. -/
def handAloneWrong : ChangeSpec := { name := "handAlone", fn := fun _ => fun
  | [d1, d2] => { results := [.lit (.bool false)], args := [d1, d2] }
  | _ => none }
def HandAloneWrongFalsely : Prop := handAloneRow.holds Try.pinned (OpenSpec.ofChange handAloneWrong)

/- THE SECOND FORM. 'bulk': how many values and letters a reading holds, each counted each time it is reached (what is shared counts as often as it is met; a slice's spare places count too). A statement '..UptoSaid' is the law's where the arguments, and the package variables that the reading takes, are together of bulk at most 1048576: NARROWER than '..Said'. Prove '..Said' where nothing that the law and all that it calls make is longer than what came in: it says more and counts as full. Else prove '..UptoSaid'. A law counts once. -/
mutual
def uptoBulk {H : Type} : DataW H → Nat
  | .lit (.string bytes) => bytes.length + 1
  | .lit _ => 1
  | .nil => 1
  | .ptr d => uptoBulk d + 1
  | .slice elems spare => uptoBulkAll elems + uptoBulkAll spare + 1
  | .agg parts => uptoBulkAll parts + 1
  | .iface _ d => uptoBulk d + 1
  | .map entries => uptoBulkEntries entries + 1
  | .held _ => 1
def uptoBulkAll {H : Type} : List (DataW H) → Nat
  | [] => 0
  | d :: r => uptoBulk d + uptoBulkAll r
def uptoBulkEntries {H : Type} : List (Lit × DataW H) → Nat
  | [] => 0
  | x :: r => uptoBulkEntry x + uptoBulkEntries r
def uptoBulkEntry {H : Type} : Lit × DataW H → Nat
  | (.string bytes, d) => bytes.length + uptoBulk d + 1
  | (_, d) => uptoBulk d + 1
 end
def uptoSmall : (H : Type) → List (DataW H) → Bool := fun _ ds => decide (uptoBulkAll ds ≤ 1048576)
def OpenSpec.upto (s : _root_.Go.ChangeSpec) : _root_.Go.OpenSpec := { _root_.Go.OpenSpec.ofChange s with cond := some uptoSmall }

/-- 'banksmanlaw11.LockTells', WHERE WHAT IT READS IS OF BULK AT MOST 1048576: true; the input reads as it did. -/
def lockTellsUptoRow : OpenClaim := { program := "ytpmhiiembbfbeaa", sum := "e1364a70536aac7c1112f1e58513d07edea209b6880d593a9c134cbc1ea8e3ba", func := "banksman/banksmanlaw11.LockTells", spec := "lockTells", inPlace := ["internal/bytealg.Compare"], unfollowed := true, recurses := true, apart := false, narrowed := true }
def LockTellsUptoSaid : Prop := lockTellsUptoRow.holds Try.pinned (OpenSpec.upto lockTellsSpec)

/-- 'banksmanlaw11.LockMay', WHERE WHAT IT READS IS OF BULK AT MOST 1048576: true; the input reads as it did. -/
def lockMayUptoRow : OpenClaim := { program := "ytpmhiiembbfbeaa", sum := "e1364a70536aac7c1112f1e58513d07edea209b6880d593a9c134cbc1ea8e3ba", func := "banksman/banksmanlaw11.LockMay", spec := "lockMay", inPlace := ["internal/bytealg.Compare"], unfollowed := true, recurses := true, apart := false, narrowed := true }
def LockMayUptoSaid : Prop := lockMayUptoRow.holds Try.pinned (OpenSpec.upto lockMaySpec)

/-- 'banksmanlaw11.LockAlone', WHERE WHAT IT READS IS OF BULK AT MOST 1048576: true; the input reads as it did. -/
def lockAloneUptoRow : OpenClaim := { program := "ytpmhiiembbfbeaa", sum := "e1364a70536aac7c1112f1e58513d07edea209b6880d593a9c134cbc1ea8e3ba", func := "banksman/banksmanlaw11.LockAlone", spec := "lockAlone", inPlace := ["internal/bytealg.Compare"], unfollowed := true, recurses := true, apart := false, narrowed := true }
def LockAloneUptoSaid : Prop := lockAloneUptoRow.holds Try.pinned (OpenSpec.upto lockAloneSpec)

/-- 'banksmanlaw12.WaitTells', WHERE WHAT IT READS IS OF BULK AT MOST 1048576: true; the input reads as it did. -/
def waitTellsUptoRow : OpenClaim := { program := "ytpmhiiembbfbeaa", sum := "e1364a70536aac7c1112f1e58513d07edea209b6880d593a9c134cbc1ea8e3ba", func := "banksman/banksmanlaw12.WaitTells", spec := "waitTells", inPlace := ["internal/bytealg.Compare"], unfollowed := true, recurses := true, apart := false, narrowed := true }
def WaitTellsUptoSaid : Prop := waitTellsUptoRow.holds Try.pinned (OpenSpec.upto waitTellsSpec)

/-- 'banksmanlaw12.WaitMore', WHERE WHAT IT READS IS OF BULK AT MOST 1048576: true; the input reads as it did. -/
def waitMoreUptoRow : OpenClaim := { program := "ytpmhiiembbfbeaa", sum := "e1364a70536aac7c1112f1e58513d07edea209b6880d593a9c134cbc1ea8e3ba", func := "banksman/banksmanlaw12.WaitMore", spec := "waitMore", inPlace := ["internal/bytealg.Compare"], unfollowed := true, recurses := true, apart := false, narrowed := true }
def WaitMoreUptoSaid : Prop := waitMoreUptoRow.holds Try.pinned (OpenSpec.upto waitMoreSpec)

/-- 'banksmanlaw12.WaitBreaks', WHERE WHAT IT READS IS OF BULK AT MOST 1048576: true; the input reads as it did. -/
def waitBreaksUptoRow : OpenClaim := { program := "ytpmhiiembbfbeaa", sum := "e1364a70536aac7c1112f1e58513d07edea209b6880d593a9c134cbc1ea8e3ba", func := "banksman/banksmanlaw12.WaitBreaks", spec := "waitBreaks", inPlace := ["internal/bytealg.Compare"], unfollowed := true, recurses := true, apart := false, narrowed := true }
def WaitBreaksUptoSaid : Prop := waitBreaksUptoRow.holds Try.pinned (OpenSpec.upto waitBreaksSpec)

/-- 'banksmanlaw12.WaitLess', WHERE WHAT IT READS IS OF BULK AT MOST 1048576: true; the input reads as it did. -/
def waitLessUptoRow : OpenClaim := { program := "ytpmhiiembbfbeaa", sum := "e1364a70536aac7c1112f1e58513d07edea209b6880d593a9c134cbc1ea8e3ba", func := "banksman/banksmanlaw12.WaitLess", spec := "waitLess", inPlace := ["internal/bytealg.Compare"], unfollowed := true, recurses := true, apart := false, narrowed := true }
def WaitLessUptoSaid : Prop := waitLessUptoRow.holds Try.pinned (OpenSpec.upto waitLessSpec)

/-- 'banksmanlaw16.HandHolds', WHERE WHAT IT READS IS OF BULK AT MOST 1048576: true; the input reads as it did. -/
def handHoldsUptoRow : OpenClaim := { program := "ytpmhiiembbfbeaa", sum := "e1364a70536aac7c1112f1e58513d07edea209b6880d593a9c134cbc1ea8e3ba", func := "banksman/banksmanlaw16.HandHolds", spec := "handHolds", inPlace := ["internal/bytealg.Compare"], unfollowed := true, recurses := true, apart := false, narrowed := true }
def HandHoldsUptoSaid : Prop := handHoldsUptoRow.holds Try.pinned (OpenSpec.upto handHoldsSpec)

/-- 'banksmanlaw16.HandBreaks', WHERE WHAT IT READS IS OF BULK AT MOST 1048576: true; the input reads as it did. -/
def handBreaksUptoRow : OpenClaim := { program := "ytpmhiiembbfbeaa", sum := "e1364a70536aac7c1112f1e58513d07edea209b6880d593a9c134cbc1ea8e3ba", func := "banksman/banksmanlaw16.HandBreaks", spec := "handBreaks", inPlace := ["internal/bytealg.Compare"], unfollowed := true, recurses := true, apart := false, narrowed := true }
def HandBreaksUptoSaid : Prop := handBreaksUptoRow.holds Try.pinned (OpenSpec.upto handBreaksSpec)

/-- 'banksmanlaw16.HandAlone', WHERE WHAT IT READS IS OF BULK AT MOST 1048576: true; the input reads as it did. -/
def handAloneUptoRow : OpenClaim := { program := "ytpmhiiembbfbeaa", sum := "e1364a70536aac7c1112f1e58513d07edea209b6880d593a9c134cbc1ea8e3ba", func := "banksman/banksmanlaw16.HandAlone", spec := "handAlone", inPlace := ["internal/bytealg.Compare"], unfollowed := true, recurses := true, apart := false, narrowed := true }
def HandAloneUptoSaid : Prop := handAloneUptoRow.holds Try.pinned (OpenSpec.upto handAloneSpec)

end Rows
end Go.Proofs.Ytpmhiiembbfbeaa
