/-
  NARROWER THAN 'FOR EVERY INPUT', by the rows' own cells (each row's printed sentence says how): StoreReads: loops · StoreScans: loops · StoreOpen: loops.
  DERIVED. THE GIVEN ROWS OF THIS SEAT. 3 by the template 'for every input the law returns true; each argument reads behind the call as it read before'; 0 by the template 'total and deterministic' (their statements: YtakdijnmhffemaaTotals.lean).
  GIVEN WITH THE SEED: the statements are not yours to turn. If you find one false, say at which input.
  Laid BY PROGRAM, IN A SANDBOX (cutbox-rows.mjs): the forced cells as the released guide's own fill.sh prints them over the translation c9e93089da61e7f0… (all of the seat's roots in one cut). By AI agents, Wed Nov 11 2026. No macro, syntax, notation, axiom, sorry.
-/
import Derived.Test.YtakdijnmhffemaaChecked
import GoSem.Claim
import GoSem.ClaimJoined
import GoSem.ClaimMapViews
import Derived.JoinedTies
import Derived.KernelRfl
namespace Go.Proofs.Ytakdijnmhffemaa
/- THE CELL 'sum', in the pinned program and in every row, IS THE sha256 OF THE DUMP (.gsa) THAT YtakdijnmhffemaaProg.lean LOADS. Nothing in Lean hashes anything: it is a label: what it is worth is what the hold of that sum in a sandbox is worth. -/
noncomputable def Try.pinned : Pinned := { name := "ytakdijnmhffemaa", sum := "c9e93089da61e7f00f0993627786657936d57fa6e12ffa78e52d434f7d379d3b", checked := Try.checked }
namespace Rows
def none {H : Type} : Left H := { results := [], args := [] }

/-- 'banksmanlaw07.StoreReads': WHATEVER THE INPUT: true; the input reads as it did. -/
def storeReadsSpec : ChangeSpec := { name := "storeReads", fn := fun _ => fun
  | [d1, d2, d3, d4, d5, d6] => { results := [.lit (.bool true)], args := [d1, d2, d3, d4, d5, d6] }
  | _ => none }
def storeReadsRow : OpenClaim := { program := "ytakdijnmhffemaa", sum := "c9e93089da61e7f00f0993627786657936d57fa6e12ffa78e52d434f7d379d3b", func := "banksman/banksmanlaw07.StoreReads", spec := "storeReads", inPlace := ["internal/bytealg.Compare", "slices.overlaps[[]byte]", "slices.overlaps[[]banksman/api.Version]", "slices.overlaps[banksman/api.Node]"], unfollowed := true, recurses := true, loops := true, apart := false }
def StoreReadsSaid : Prop := storeReadsRow.holds Try.pinned (OpenSpec.ofChange storeReadsSpec)

/-- ITS FALSE NEIGHBOUR: 'it returns false'. Refute it at one input. -/
def storeReadsWrong : ChangeSpec := { name := "storeReads", fn := fun _ => fun
  | [d1, d2, d3, d4, d5, d6] => { results := [.lit (.bool false)], args := [d1, d2, d3, d4, d5, d6] }
  | _ => none }
def StoreReadsWrongFalsely : Prop := storeReadsRow.holds Try.pinned (OpenSpec.ofChange storeReadsWrong)

/-- 'banksmanlaw07.StoreScans': WHATEVER THE INPUT: true; the input reads as it did. -/
def storeScansSpec : ChangeSpec := { name := "storeScans", fn := fun _ => fun
  | [d1, d2, d3, d4] => { results := [.lit (.bool true)], args := [d1, d2, d3, d4] }
  | _ => none }
def storeScansRow : OpenClaim := { program := "ytakdijnmhffemaa", sum := "c9e93089da61e7f00f0993627786657936d57fa6e12ffa78e52d434f7d379d3b", func := "banksman/banksmanlaw07.StoreScans", spec := "storeScans", inPlace := ["internal/bytealg.Compare", "slices.overlaps[[]byte]", "slices.overlaps[[]banksman/api.Version]", "slices.overlaps[banksman/api.Node]"], unfollowed := true, recurses := true, loops := true, apart := false }
def StoreScansSaid : Prop := storeScansRow.holds Try.pinned (OpenSpec.ofChange storeScansSpec)

/-- ITS FALSE NEIGHBOUR: 'it returns false'. Refute it at one input. -/
def storeScansWrong : ChangeSpec := { name := "storeScans", fn := fun _ => fun
  | [d1, d2, d3, d4] => { results := [.lit (.bool false)], args := [d1, d2, d3, d4] }
  | _ => none }
def StoreScansWrongFalsely : Prop := storeScansRow.holds Try.pinned (OpenSpec.ofChange storeScansWrong)

/-- 'banksmanlaw07.StoreOpen': WHATEVER THE INPUT: true; the input reads as it did. -/
def storeOpenSpec : ChangeSpec := { name := "storeOpen", fn := fun _ => fun
  | [d1, d2, d3, d4] => { results := [.lit (.bool true)], args := [d1, d2, d3, d4] }
  | _ => none }
def storeOpenRow : OpenClaim := { program := "ytakdijnmhffemaa", sum := "c9e93089da61e7f00f0993627786657936d57fa6e12ffa78e52d434f7d379d3b", func := "banksman/banksmanlaw07.StoreOpen", spec := "storeOpen", inPlace := ["internal/bytealg.Compare", "slices.overlaps[[]byte]", "slices.overlaps[[]banksman/api.Version]", "slices.overlaps[banksman/api.Node]"], unfollowed := true, recurses := true, loops := true, apart := false }
def StoreOpenSaid : Prop := storeOpenRow.holds Try.pinned (OpenSpec.ofChange storeOpenSpec)

/-- ITS FALSE NEIGHBOUR: 'it returns false'. Refute it at one input. -/
def storeOpenWrong : ChangeSpec := { name := "storeOpen", fn := fun _ => fun
  | [d1, d2, d3, d4] => { results := [.lit (.bool false)], args := [d1, d2, d3, d4] }
  | _ => none }
def StoreOpenWrongFalsely : Prop := storeOpenRow.holds Try.pinned (OpenSpec.ofChange storeOpenWrong)

/- THE SECOND FORM. 'bulk': how many values and letters a reading holds, each counted each time it is reached (what is shared counts as often as it is met; a slice's spare places count too). A statement '..UptoSaid' is the law's where the arguments, and the package variables that the reading takes, are together of bulk at most 1048576: NARROWER than '..Said'. Prove '..Said' where nothing that the law and all that it calls make is longer than what came in: it says more and counts as full. Else prove '..UptoSaid'. A law counts once. -/
mutual
def uptoBulk {H : Type} : DataW H → Nat
  | .lit (.string bytes) => bytes.length + 1
  | .lit _ => 1
  | .nil => 1
  | .ptr d => uptoBulk d + 1
  | .slice elems spare => uptoBulkAll elems + uptoBulkAll spare + 1
  | .agg parts => uptoBulkAll parts + 1
  | .iface _ d => uptoBulk d + 1
  | .map entries => uptoBulkEntries entries + 1
  | .held _ => 1
def uptoBulkAll {H : Type} : List (DataW H) → Nat
  | [] => 0
  | d :: r => uptoBulk d + uptoBulkAll r
def uptoBulkEntries {H : Type} : List (Lit × DataW H) → Nat
  | [] => 0
  | x :: r => uptoBulkEntry x + uptoBulkEntries r
def uptoBulkEntry {H : Type} : Lit × DataW H → Nat
  | (.string bytes, d) => bytes.length + uptoBulk d + 1
  | (_, d) => uptoBulk d + 1
 end
def uptoSmall : (H : Type) → List (DataW H) → Bool := fun _ ds => decide (uptoBulkAll ds ≤ 1048576)
def OpenSpec.upto (s : _root_.Go.ChangeSpec) : _root_.Go.OpenSpec := { _root_.Go.OpenSpec.ofChange s with cond := some uptoSmall }

/-- 'banksmanlaw07.StoreReads', WHERE WHAT IT READS IS OF BULK AT MOST 1048576: true; the input reads as it did. -/
def storeReadsUptoRow : OpenClaim := { program := "ytakdijnmhffemaa", sum := "c9e93089da61e7f00f0993627786657936d57fa6e12ffa78e52d434f7d379d3b", func := "banksman/banksmanlaw07.StoreReads", spec := "storeReads", inPlace := ["internal/bytealg.Compare", "slices.overlaps[[]byte]", "slices.overlaps[[]banksman/api.Version]", "slices.overlaps[banksman/api.Node]"], unfollowed := true, recurses := true, loops := true, apart := false, narrowed := true }
def StoreReadsUptoSaid : Prop := storeReadsUptoRow.holds Try.pinned (OpenSpec.upto storeReadsSpec)

/-- 'banksmanlaw07.StoreScans', WHERE WHAT IT READS IS OF BULK AT MOST 1048576: true; the input reads as it did. -/
def storeScansUptoRow : OpenClaim := { program := "ytakdijnmhffemaa", sum := "c9e93089da61e7f00f0993627786657936d57fa6e12ffa78e52d434f7d379d3b", func := "banksman/banksmanlaw07.StoreScans", spec := "storeScans", inPlace := ["internal/bytealg.Compare", "slices.overlaps[[]byte]", "slices.overlaps[[]banksman/api.Version]", "slices.overlaps[banksman/api.Node]"], unfollowed := true, recurses := true, loops := true, apart := false, narrowed := true }
def StoreScansUptoSaid : Prop := storeScansUptoRow.holds Try.pinned (OpenSpec.upto storeScansSpec)

/-- 'banksmanlaw07.StoreOpen', WHERE WHAT IT READS IS OF BULK AT MOST 1048576: true; the input reads as it did. -/
def storeOpenUptoRow : OpenClaim := { program := "ytakdijnmhffemaa", sum := "c9e93089da61e7f00f0993627786657936d57fa6e12ffa78e52d434f7d379d3b", func := "banksman/banksmanlaw07.StoreOpen", spec := "storeOpen", inPlace := ["internal/bytealg.Compare", "slices.overlaps[[]byte]", "slices.overlaps[[]banksman/api.Version]", "slices.overlaps[banksman/api.Node]"], unfollowed := true, recurses := true, loops := true, apart := false, narrowed := true }
def StoreOpenUptoSaid : Prop := storeOpenUptoRow.holds Try.pinned (OpenSpec.upto storeOpenSpec)

end Rows
end Go.Proofs.Ytakdijnmhffemaa
