/-
  NARROWER THAN 'FOR EVERY INPUT', by the rows' own cells (each row's printed sentence says how): TreeTells: loops · TreeDoes: loops · TreeOrder: loops · TreeBounds: loops · TreeFinds: loops · TreeBack: loops · TreeEmpties: loops.
  DERIVED. THE GIVEN ROWS OF THIS SEAT. 9 by the template 'for every input the law returns true; each argument reads behind the call as it read before'; 0 by the template 'total and deterministic' (their statements: YtingjgfoihjelaaTotals.lean).
  GIVEN WITH THE SEED: the statements are not yours to turn. If you find one false, say at which input.
  Laid BY PROGRAM, IN A SANDBOX (cutbox-rows.mjs): the forced cells as the released guide's own fill.sh prints them over the translation c086186e9aa34c13… (all of the seat's roots in one cut). By AI agents, Wed Nov 11 2026. No macro, syntax, notation, axiom, sorry.
-/
import Derived.Test.YtingjgfoihjelaaChecked
import GoSem.Claim
import GoSem.ClaimJoined
import GoSem.ClaimMapViews
import Derived.JoinedTies
import Derived.KernelRfl
namespace Go.Proofs.Ytingjgfoihjelaa
/- THE CELL 'sum', in the pinned program and in every row, IS THE sha256 OF THE DUMP (.gsa) THAT YtingjgfoihjelaaProg.lean LOADS. Nothing in Lean hashes anything: it is a label: what it is worth is what the hold of that sum in a sandbox is worth. -/
noncomputable def Try.pinned : Pinned := { name := "ytingjgfoihjelaa", sum := "c086186e9aa34c1336a5fd4c0dcacbb81a14e1d7690fe69a3d577420f03051bb", checked := Try.checked }
namespace Rows
def none {H : Type} : Left H := { results := [], args := [] }

/-- 'banksmanlaw06.TreeTells': WHATEVER THE INPUT: true; the input reads as it did. -/
def treeTellsSpec : ChangeSpec := { name := "treeTells", fn := fun _ => fun
  | [d1, d2] => { results := [.lit (.bool true)], args := [d1, d2] }
  | _ => none }
def treeTellsRow : OpenClaim := { program := "ytingjgfoihjelaa", sum := "c086186e9aa34c1336a5fd4c0dcacbb81a14e1d7690fe69a3d577420f03051bb", func := "banksman/banksmanlaw06.TreeTells", spec := "treeTells", inPlace := ["internal/bytealg.Compare", "slices.overlaps[[]byte]", "slices.overlaps[[]banksman/api.Version]", "slices.overlaps[banksman/api.Node]"], unfollowed := true, recurses := true, loops := true, apart := false }
def TreeTellsSaid : Prop := treeTellsRow.holds Try.pinned (OpenSpec.ofChange treeTellsSpec)

/-- ITS FALSE NEIGHBOUR: 'it returns false'. Refute it at one input. -/
def treeTellsWrong : ChangeSpec := { name := "treeTells", fn := fun _ => fun
  | [d1, d2] => { results := [.lit (.bool false)], args := [d1, d2] }
  | _ => none }
def TreeTellsWrongFalsely : Prop := treeTellsRow.holds Try.pinned (OpenSpec.ofChange treeTellsWrong)

/-- 'banksmanlaw06.TreeDoes': WHATEVER THE INPUT: true; the input reads as it did. -/
def treeDoesSpec : ChangeSpec := { name := "treeDoes", fn := fun _ => fun
  | [d1, d2, d3] => { results := [.lit (.bool true)], args := [d1, d2, d3] }
  | _ => none }
def treeDoesRow : OpenClaim := { program := "ytingjgfoihjelaa", sum := "c086186e9aa34c1336a5fd4c0dcacbb81a14e1d7690fe69a3d577420f03051bb", func := "banksman/banksmanlaw06.TreeDoes", spec := "treeDoes", inPlace := ["internal/bytealg.Compare", "slices.overlaps[[]byte]", "slices.overlaps[[]banksman/api.Version]", "slices.overlaps[banksman/api.Node]"], unfollowed := true, recurses := true, loops := true, apart := false }
def TreeDoesSaid : Prop := treeDoesRow.holds Try.pinned (OpenSpec.ofChange treeDoesSpec)

/-- ITS FALSE NEIGHBOUR: 'it returns false'. Refute it at one input. -/
def treeDoesWrong : ChangeSpec := { name := "treeDoes", fn := fun _ => fun
  | [d1, d2, d3] => { results := [.lit (.bool false)], args := [d1, d2, d3] }
  | _ => none }
def TreeDoesWrongFalsely : Prop := treeDoesRow.holds Try.pinned (OpenSpec.ofChange treeDoesWrong)

/-- 'banksmanlaw06.TreeGoes': WHATEVER THE INPUT: true; the input reads as it did. -/
def treeGoesSpec : ChangeSpec := { name := "treeGoes", fn := fun _ => fun
  | [d] => { results := [.lit (.bool true)], args := [d] }
  | _ => none }
def treeGoesRow : OpenClaim := { program := "ytingjgfoihjelaa", sum := "c086186e9aa34c1336a5fd4c0dcacbb81a14e1d7690fe69a3d577420f03051bb", func := "banksman/banksmanlaw06.TreeGoes", spec := "treeGoes", inPlace := ["internal/bytealg.Compare", "slices.overlaps[[]byte]", "slices.overlaps[[]banksman/api.Version]", "slices.overlaps[banksman/api.Node]"], unfollowed := true, recurses := true, apart := false }
def TreeGoesSaid : Prop := treeGoesRow.holds Try.pinned (OpenSpec.ofChange treeGoesSpec)

/-- ITS FALSE NEIGHBOUR: 'it returns false'. Refute it at one input. -/
def treeGoesWrong : ChangeSpec := { name := "treeGoes", fn := fun _ => fun
  | [d] => { results := [.lit (.bool false)], args := [d] }
  | _ => none }
def TreeGoesWrongFalsely : Prop := treeGoesRow.holds Try.pinned (OpenSpec.ofChange treeGoesWrong)

/-- 'banksmanlaw06.TreeOrder': WHATEVER THE INPUT: true; the input reads as it did. -/
def treeOrderSpec : ChangeSpec := { name := "treeOrder", fn := fun _ => fun
  | [d] => { results := [.lit (.bool true)], args := [d] }
  | _ => none }
def treeOrderRow : OpenClaim := { program := "ytingjgfoihjelaa", sum := "c086186e9aa34c1336a5fd4c0dcacbb81a14e1d7690fe69a3d577420f03051bb", func := "banksman/banksmanlaw06.TreeOrder", spec := "treeOrder", inPlace := ["internal/bytealg.Compare", "slices.overlaps[[]byte]", "slices.overlaps[[]banksman/api.Version]", "slices.overlaps[banksman/api.Node]"], unfollowed := true, recurses := true, loops := true, apart := false }
def TreeOrderSaid : Prop := treeOrderRow.holds Try.pinned (OpenSpec.ofChange treeOrderSpec)

/-- ITS FALSE NEIGHBOUR: 'it returns false'. Refute it at one input. -/
def treeOrderWrong : ChangeSpec := { name := "treeOrder", fn := fun _ => fun
  | [d] => { results := [.lit (.bool false)], args := [d] }
  | _ => none }
def TreeOrderWrongFalsely : Prop := treeOrderRow.holds Try.pinned (OpenSpec.ofChange treeOrderWrong)

/-- 'banksmanlaw06.TreeAgain': WHATEVER THE INPUT: true; the input reads as it did. -/
def treeAgainSpec : ChangeSpec := { name := "treeAgain", fn := fun _ => fun
  | [d1, d2] => { results := [.lit (.bool true)], args := [d1, d2] }
  | _ => none }
def treeAgainRow : OpenClaim := { program := "ytingjgfoihjelaa", sum := "c086186e9aa34c1336a5fd4c0dcacbb81a14e1d7690fe69a3d577420f03051bb", func := "banksman/banksmanlaw06.TreeAgain", spec := "treeAgain", inPlace := ["internal/bytealg.Compare", "slices.overlaps[[]byte]", "slices.overlaps[[]banksman/api.Version]", "slices.overlaps[banksman/api.Node]"], unfollowed := true, recurses := true, apart := false }
def TreeAgainSaid : Prop := treeAgainRow.holds Try.pinned (OpenSpec.ofChange treeAgainSpec)

/-- ITS FALSE NEIGHBOUR: 'it returns false'. Refute it at one input. -/
def treeAgainWrong : ChangeSpec := { name := "treeAgain", fn := fun _ => fun
  | [d1, d2] => { results := [.lit (.bool false)], args := [d1, d2] }
  | _ => none }
def TreeAgainWrongFalsely : Prop := treeAgainRow.holds Try.pinned (OpenSpec.ofChange treeAgainWrong)

/-- 'banksmanlaw06.TreeBounds': WHATEVER THE INPUT: true; the input reads as it did. -/
def treeBoundsSpec : ChangeSpec := { name := "treeBounds", fn := fun _ => fun
  | [d] => { results := [.lit (.bool true)], args := [d] }
  | _ => none }
def treeBoundsRow : OpenClaim := { program := "ytingjgfoihjelaa", sum := "c086186e9aa34c1336a5fd4c0dcacbb81a14e1d7690fe69a3d577420f03051bb", func := "banksman/banksmanlaw06.TreeBounds", spec := "treeBounds", inPlace := ["internal/bytealg.Compare", "slices.overlaps[[]byte]", "slices.overlaps[[]banksman/api.Version]", "slices.overlaps[banksman/api.Node]"], unfollowed := true, recurses := true, loops := true, apart := false }
def TreeBoundsSaid : Prop := treeBoundsRow.holds Try.pinned (OpenSpec.ofChange treeBoundsSpec)

/-- ITS FALSE NEIGHBOUR: 'it returns false'. Refute it at one input. -/
def treeBoundsWrong : ChangeSpec := { name := "treeBounds", fn := fun _ => fun
  | [d] => { results := [.lit (.bool false)], args := [d] }
  | _ => none }
def TreeBoundsWrongFalsely : Prop := treeBoundsRow.holds Try.pinned (OpenSpec.ofChange treeBoundsWrong)

/-- 'banksmanlaw06.TreeFinds': WHATEVER THE INPUT: true; the input reads as it did. -/
def treeFindsSpec : ChangeSpec := { name := "treeFinds", fn := fun _ => fun
  | [d1, d2] => { results := [.lit (.bool true)], args := [d1, d2] }
  | _ => none }
def treeFindsRow : OpenClaim := { program := "ytingjgfoihjelaa", sum := "c086186e9aa34c1336a5fd4c0dcacbb81a14e1d7690fe69a3d577420f03051bb", func := "banksman/banksmanlaw06.TreeFinds", spec := "treeFinds", inPlace := ["internal/bytealg.Compare", "slices.overlaps[[]byte]", "slices.overlaps[[]banksman/api.Version]", "slices.overlaps[banksman/api.Node]"], unfollowed := true, recurses := true, loops := true, apart := false }
def TreeFindsSaid : Prop := treeFindsRow.holds Try.pinned (OpenSpec.ofChange treeFindsSpec)

/-- ITS FALSE NEIGHBOUR: 'it returns false'. Refute it at one input. -/
def treeFindsWrong : ChangeSpec := { name := "treeFinds", fn := fun _ => fun
  | [d1, d2] => { results := [.lit (.bool false)], args := [d1, d2] }
  | _ => none }
def TreeFindsWrongFalsely : Prop := treeFindsRow.holds Try.pinned (OpenSpec.ofChange treeFindsWrong)

/-- 'banksmanlaw06.TreeBack': WHATEVER THE INPUT: true; the input reads as it did. -/
def treeBackSpec : ChangeSpec := { name := "treeBack", fn := fun _ => fun
  | [d1, d2, d3] => { results := [.lit (.bool true)], args := [d1, d2, d3] }
  | _ => none }
def treeBackRow : OpenClaim := { program := "ytingjgfoihjelaa", sum := "c086186e9aa34c1336a5fd4c0dcacbb81a14e1d7690fe69a3d577420f03051bb", func := "banksman/banksmanlaw06.TreeBack", spec := "treeBack", inPlace := ["internal/bytealg.Compare", "slices.overlaps[[]byte]", "slices.overlaps[[]banksman/api.Version]", "slices.overlaps[banksman/api.Node]"], unfollowed := true, recurses := true, loops := true, apart := false }
def TreeBackSaid : Prop := treeBackRow.holds Try.pinned (OpenSpec.ofChange treeBackSpec)

/-- ITS FALSE NEIGHBOUR: 'it returns false'. Refute it at one input. -/
def treeBackWrong : ChangeSpec := { name := "treeBack", fn := fun _ => fun
  | [d1, d2, d3] => { results := [.lit (.bool false)], args := [d1, d2, d3] }
  | _ => none }
def TreeBackWrongFalsely : Prop := treeBackRow.holds Try.pinned (OpenSpec.ofChange treeBackWrong)

/-- 'banksmanlaw06.TreeEmpties': WHATEVER THE INPUT: true; the input reads as it did. -/
def treeEmptiesSpec : ChangeSpec := { name := "treeEmpties", fn := fun _ => fun
  | [d1, d2] => { results := [.lit (.bool true)], args := [d1, d2] }
  | _ => none }
def treeEmptiesRow : OpenClaim := { program := "ytingjgfoihjelaa", sum := "c086186e9aa34c1336a5fd4c0dcacbb81a14e1d7690fe69a3d577420f03051bb", func := "banksman/banksmanlaw06.TreeEmpties", spec := "treeEmpties", inPlace := ["internal/bytealg.Compare", "slices.overlaps[[]byte]", "slices.overlaps[[]banksman/api.Version]", "slices.overlaps[banksman/api.Node]"], unfollowed := true, recurses := true, loops := true, apart := false }
def TreeEmptiesSaid : Prop := treeEmptiesRow.holds Try.pinned (OpenSpec.ofChange treeEmptiesSpec)

/-- ITS FALSE NEIGHBOUR: 'it returns false'. Refute it at one input. -/
def treeEmptiesWrong : ChangeSpec := { name := "treeEmpties", fn := fun _ => fun
  | [d1, d2] => { results := [.lit (.bool false)], args := [d1, d2] }
  | _ => none }
def TreeEmptiesWrongFalsely : Prop := treeEmptiesRow.holds Try.pinned (OpenSpec.ofChange treeEmptiesWrong)

/- THE SECOND FORM. 'bulk': how many values and letters a reading holds, each counted each time it is reached (what is shared counts as often as it is met; a slice's spare places count too). A statement '..UptoSaid' is the law's where the arguments, and the package variables that the reading takes, are together of bulk at most 1048576: NARROWER than '..Said'. Prove '..Said' where nothing that the law and all that it calls make is longer than what came in: it says more and counts as full. Else prove '..UptoSaid'. A law counts once. -/
mutual
def uptoBulk {H : Type} : DataW H → Nat
  | .lit (.string bytes) => bytes.length + 1
  | .lit _ => 1
  | .nil => 1
  | .ptr d => uptoBulk d + 1
  | .slice elems spare => uptoBulkAll elems + uptoBulkAll spare + 1
  | .agg parts => uptoBulkAll parts + 1
  | .iface _ d => uptoBulk d + 1
  | .map entries => uptoBulkEntries entries + 1
  | .held _ => 1
def uptoBulkAll {H : Type} : List (DataW H) → Nat
  | [] => 0
  | d :: r => uptoBulk d + uptoBulkAll r
def uptoBulkEntries {H : Type} : List (Lit × DataW H) → Nat
  | [] => 0
  | x :: r => uptoBulkEntry x + uptoBulkEntries r
def uptoBulkEntry {H : Type} : Lit × DataW H → Nat
  | (.string bytes, d) => bytes.length + uptoBulk d + 1
  | (_, d) => uptoBulk d + 1
 end
def uptoSmall : (H : Type) → List (DataW H) → Bool := fun _ ds => decide (uptoBulkAll ds ≤ 1048576)
def OpenSpec.upto (s : _root_.Go.ChangeSpec) : _root_.Go.OpenSpec := { _root_.Go.OpenSpec.ofChange s with cond := some uptoSmall }

/-- 'banksmanlaw06.TreeTells', WHERE WHAT IT READS IS OF BULK AT MOST 1048576: true; the input reads as it did. -/
def treeTellsUptoRow : OpenClaim := { program := "ytingjgfoihjelaa", sum := "c086186e9aa34c1336a5fd4c0dcacbb81a14e1d7690fe69a3d577420f03051bb", func := "banksman/banksmanlaw06.TreeTells", spec := "treeTells", inPlace := ["internal/bytealg.Compare", "slices.overlaps[[]byte]", "slices.overlaps[[]banksman/api.Version]", "slices.overlaps[banksman/api.Node]"], unfollowed := true, recurses := true, loops := true, apart := false, narrowed := true }
def TreeTellsUptoSaid : Prop := treeTellsUptoRow.holds Try.pinned (OpenSpec.upto treeTellsSpec)

/-- 'banksmanlaw06.TreeDoes', WHERE WHAT IT READS IS OF BULK AT MOST 1048576: true; the input reads as it did. -/
def treeDoesUptoRow : OpenClaim := { program := "ytingjgfoihjelaa", sum := "c086186e9aa34c1336a5fd4c0dcacbb81a14e1d7690fe69a3d577420f03051bb", func := "banksman/banksmanlaw06.TreeDoes", spec := "treeDoes", inPlace := ["internal/bytealg.Compare", "slices.overlaps[[]byte]", "slices.overlaps[[]banksman/api.Version]", "slices.overlaps[banksman/api.Node]"], unfollowed := true, recurses := true, loops := true, apart := false, narrowed := true }
def TreeDoesUptoSaid : Prop := treeDoesUptoRow.holds Try.pinned (OpenSpec.upto treeDoesSpec)

/-- 'banksmanlaw06.TreeGoes', WHERE WHAT IT READS IS OF BULK AT MOST 1048576: true; the input reads as it did. -/
def treeGoesUptoRow : OpenClaim := { program := "ytingjgfoihjelaa", sum := "c086186e9aa34c1336a5fd4c0dcacbb81a14e1d7690fe69a3d577420f03051bb", func := "banksman/banksmanlaw06.TreeGoes", spec := "treeGoes", inPlace := ["internal/bytealg.Compare", "slices.overlaps[[]byte]", "slices.overlaps[[]banksman/api.Version]", "slices.overlaps[banksman/api.Node]"], unfollowed := true, recurses := true, apart := false, narrowed := true }
def TreeGoesUptoSaid : Prop := treeGoesUptoRow.holds Try.pinned (OpenSpec.upto treeGoesSpec)

/-- 'banksmanlaw06.TreeOrder', WHERE WHAT IT READS IS OF BULK AT MOST 1048576: true; the input reads as it did. -/
def treeOrderUptoRow : OpenClaim := { program := "ytingjgfoihjelaa", sum := "c086186e9aa34c1336a5fd4c0dcacbb81a14e1d7690fe69a3d577420f03051bb", func := "banksman/banksmanlaw06.TreeOrder", spec := "treeOrder", inPlace := ["internal/bytealg.Compare", "slices.overlaps[[]byte]", "slices.overlaps[[]banksman/api.Version]", "slices.overlaps[banksman/api.Node]"], unfollowed := true, recurses := true, loops := true, apart := false, narrowed := true }
def TreeOrderUptoSaid : Prop := treeOrderUptoRow.holds Try.pinned (OpenSpec.upto treeOrderSpec)

/-- 'banksmanlaw06.TreeAgain', WHERE WHAT IT READS IS OF BULK AT MOST 1048576: true; the input reads as it did. -/
def treeAgainUptoRow : OpenClaim := { program := "ytingjgfoihjelaa", sum := "c086186e9aa34c1336a5fd4c0dcacbb81a14e1d7690fe69a3d577420f03051bb", func := "banksman/banksmanlaw06.TreeAgain", spec := "treeAgain", inPlace := ["internal/bytealg.Compare", "slices.overlaps[[]byte]", "slices.overlaps[[]banksman/api.Version]", "slices.overlaps[banksman/api.Node]"], unfollowed := true, recurses := true, apart := false, narrowed := true }
def TreeAgainUptoSaid : Prop := treeAgainUptoRow.holds Try.pinned (OpenSpec.upto treeAgainSpec)

/-- 'banksmanlaw06.TreeBounds', WHERE WHAT IT READS IS OF BULK AT MOST 1048576: true; the input reads as it did. -/
def treeBoundsUptoRow : OpenClaim := { program := "ytingjgfoihjelaa", sum := "c086186e9aa34c1336a5fd4c0dcacbb81a14e1d7690fe69a3d577420f03051bb", func := "banksman/banksmanlaw06.TreeBounds", spec := "treeBounds", inPlace := ["internal/bytealg.Compare", "slices.overlaps[[]byte]", "slices.overlaps[[]banksman/api.Version]", "slices.overlaps[banksman/api.Node]"], unfollowed := true, recurses := true, loops := true, apart := false, narrowed := true }
def TreeBoundsUptoSaid : Prop := treeBoundsUptoRow.holds Try.pinned (OpenSpec.upto treeBoundsSpec)

/-- 'banksmanlaw06.TreeFinds', WHERE WHAT IT READS IS OF BULK AT MOST 1048576: true; the input reads as it did. -/
def treeFindsUptoRow : OpenClaim := { program := "ytingjgfoihjelaa", sum := "c086186e9aa34c1336a5fd4c0dcacbb81a14e1d7690fe69a3d577420f03051bb", func := "banksman/banksmanlaw06.TreeFinds", spec := "treeFinds", inPlace := ["internal/bytealg.Compare", "slices.overlaps[[]byte]", "slices.overlaps[[]banksman/api.Version]", "slices.overlaps[banksman/api.Node]"], unfollowed := true, recurses := true, loops := true, apart := false, narrowed := true }
def TreeFindsUptoSaid : Prop := treeFindsUptoRow.holds Try.pinned (OpenSpec.upto treeFindsSpec)

/-- 'banksmanlaw06.TreeBack', WHERE WHAT IT READS IS OF BULK AT MOST 1048576: true; the input reads as it did. -/
def treeBackUptoRow : OpenClaim := { program := "ytingjgfoihjelaa", sum := "c086186e9aa34c1336a5fd4c0dcacbb81a14e1d7690fe69a3d577420f03051bb", func := "banksman/banksmanlaw06.TreeBack", spec := "treeBack", inPlace := ["internal/bytealg.Compare", "slices.overlaps[[]byte]", "slices.overlaps[[]banksman/api.Version]", "slices.overlaps[banksman/api.Node]"], unfollowed := true, recurses := true, loops := true, apart := false, narrowed := true }
def TreeBackUptoSaid : Prop := treeBackUptoRow.holds Try.pinned (OpenSpec.upto treeBackSpec)

/-- 'banksmanlaw06.TreeEmpties', WHERE WHAT IT READS IS OF BULK AT MOST 1048576: true; the input reads as it did. -/
def treeEmptiesUptoRow : OpenClaim := { program := "ytingjgfoihjelaa", sum := "c086186e9aa34c1336a5fd4c0dcacbb81a14e1d7690fe69a3d577420f03051bb", func := "banksman/banksmanlaw06.TreeEmpties", spec := "treeEmpties", inPlace := ["internal/bytealg.Compare", "slices.overlaps[[]byte]", "slices.overlaps[[]banksman/api.Version]", "slices.overlaps[banksman/api.Node]"], unfollowed := true, recurses := true, loops := true, apart := false, narrowed := true }
def TreeEmptiesUptoSaid : Prop := treeEmptiesUptoRow.holds Try.pinned (OpenSpec.upto treeEmptiesSpec)

end Rows
end Go.Proofs.Ytingjgfoihjelaa
