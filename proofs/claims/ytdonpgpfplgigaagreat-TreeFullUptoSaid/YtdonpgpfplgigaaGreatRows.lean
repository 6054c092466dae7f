/-
  No cell of these rows narrows 'for every input' (looked for: loops, veiled, ifaces, maps, wideKeys, modest, calm, conditions, laid).
  DERIVED. THE GIVEN ROWS OF THIS SEAT. 8 by the template 'for every input the law returns true; each argument reads behind the call as it read before'; 0 by the template 'total and deterministic' (their statements: YtdonpgpfplgigaaGreatTotals.lean).
  GIVEN WITH THE SEED: the statements are not yours to turn. If you find one false, say at which input.
  Laid BY PROGRAM, IN A SANDBOX (cutbox-rows.mjs): the forced cells as the released guide's own fill.sh prints them over the translation a381692295d30c05… (all of the seat's roots in one cut). By AI agents, Wed Nov 11 2026. No macro, syntax, notation, axiom, sorry.
-/
import Derived.Test.YtdonpgpfplgigaaGreatChecked
import GoSem.Claim
import GoSem.ClaimJoined
import GoSem.ClaimMapViews
import Derived.JoinedTies
import Derived.KernelRfl
namespace Go.Proofs.YtdonpgpfplgigaaGreat
/- THE CELL 'sum', in the pinned program and in every row, IS THE sha256 OF THE DUMP (.gsa) THAT YtdonpgpfplgigaaGreatProg.lean LOADS. Nothing in Lean hashes anything: it is a label: what it is worth is what the hold of that sum in a sandbox is worth. -/
noncomputable def Tryz.pinned : Pinned := { name := "ytdonpgpfplgigaagreat", sum := "a381692295d30c05a1774e9d1d1814f7eb3d81939952bb1db039f3b4fc5d8281", checked := Tryz.checked }
namespace Rows
def none {H : Type} : Left H := { results := [], args := [] }

/-- 'munimentlaw11.TreeKept': WHATEVER THE INPUT: true; the input reads as it did. -/
def treeKeptSpec : ChangeSpec := { name := "treeKept", fn := fun _ => fun
  | [d] => { results := [.lit (.bool true)], args := [d] }
  | _ => none }
def treeKeptRow : OpenClaim := { program := "ytdonpgpfplgigaagreat", sum := "a381692295d30c05a1774e9d1d1814f7eb3d81939952bb1db039f3b4fc5d8281", func := "muniment/munimentlaw11.TreeKept", spec := "treeKept", inPlace := ["internal/bytealg.Compare", "slices.overlaps[[]byte]"], unfollowed := true, recurses := true, apart := false }
def TreeKeptSaid : Prop := treeKeptRow.holds Tryz.pinned (OpenSpec.ofChange treeKeptSpec)

/-- ITS FALSE NEIGHBOUR: 'it returns false'. Refute it at one input. -/
def treeKeptWrong : ChangeSpec := { name := "treeKept", fn := fun _ => fun
  | [d] => { results := [.lit (.bool false)], args := [d] }
  | _ => none }
def TreeKeptWrongFalsely : Prop := treeKeptRow.holds Tryz.pinned (OpenSpec.ofChange treeKeptWrong)

/-- 'munimentlaw11.TreeFull': WHATEVER THE INPUT: true; the input reads as it did. -/
def treeFullSpec : ChangeSpec := { name := "treeFull", fn := fun _ => fun
  | [d] => { results := [.lit (.bool true)], args := [d] }
  | _ => none }
def treeFullRow : OpenClaim := { program := "ytdonpgpfplgigaagreat", sum := "a381692295d30c05a1774e9d1d1814f7eb3d81939952bb1db039f3b4fc5d8281", func := "muniment/munimentlaw11.TreeFull", spec := "treeFull", inPlace := ["internal/bytealg.Compare", "slices.overlaps[[]byte]"], unfollowed := true, recurses := true, apart := false }
def TreeFullSaid : Prop := treeFullRow.holds Tryz.pinned (OpenSpec.ofChange treeFullSpec)

/-- ITS FALSE NEIGHBOUR: 'it returns false'. Refute it at one input. -/
def treeFullWrong : ChangeSpec := { name := "treeFull", fn := fun _ => fun
  | [d] => { results := [.lit (.bool false)], args := [d] }
  | _ => none }
def TreeFullWrongFalsely : Prop := treeFullRow.holds Tryz.pinned (OpenSpec.ofChange treeFullWrong)

/-- 'munimentlaw11.TreeMany': WHATEVER THE INPUT: true; the input reads as it did. -/
def treeManySpec : ChangeSpec := { name := "treeMany", fn := fun _ => fun
  | [d1, d2, d3] => { results := [.lit (.bool true)], args := [d1, d2, d3] }
  | _ => none }
def treeManyRow : OpenClaim := { program := "ytdonpgpfplgigaagreat", sum := "a381692295d30c05a1774e9d1d1814f7eb3d81939952bb1db039f3b4fc5d8281", func := "muniment/munimentlaw11.TreeMany", spec := "treeMany", inPlace := ["internal/bytealg.Compare", "slices.overlaps[[]byte]"], unfollowed := true, recurses := true, apart := false }
def TreeManySaid : Prop := treeManyRow.holds Tryz.pinned (OpenSpec.ofChange treeManySpec)

/-- ITS FALSE NEIGHBOUR: 'it returns false'. Refute it at one input. -/
def treeManyWrong : ChangeSpec := { name := "treeMany", fn := fun _ => fun
  | [d1, d2, d3] => { results := [.lit (.bool false)], args := [d1, d2, d3] }
  | _ => none }
def TreeManyWrongFalsely : Prop := treeManyRow.holds Tryz.pinned (OpenSpec.ofChange treeManyWrong)

/-- 'munimentlaw11.TreeWalk': WHATEVER THE INPUT: true; the input reads as it did. -/
def treeWalkSpec : ChangeSpec := { name := "treeWalk", fn := fun _ => fun
  | [d] => { results := [.lit (.bool true)], args := [d] }
  | _ => none }
def treeWalkRow : OpenClaim := { program := "ytdonpgpfplgigaagreat", sum := "a381692295d30c05a1774e9d1d1814f7eb3d81939952bb1db039f3b4fc5d8281", func := "muniment/munimentlaw11.TreeWalk", spec := "treeWalk", inPlace := ["internal/bytealg.Compare", "slices.overlaps[[]byte]"], unfollowed := true, recurses := true, apart := false }
def TreeWalkSaid : Prop := treeWalkRow.holds Tryz.pinned (OpenSpec.ofChange treeWalkSpec)

/-- ITS FALSE NEIGHBOUR: 'it returns false'. Refute it at one input. -/
def treeWalkWrong : ChangeSpec := { name := "treeWalk", fn := fun _ => fun
  | [d] => { results := [.lit (.bool false)], args := [d] }
  | _ => none }
def TreeWalkWrongFalsely : Prop := treeWalkRow.holds Tryz.pinned (OpenSpec.ofChange treeWalkWrong)

/-- 'munimentlaw11.TreeTidy': WHATEVER THE INPUT: true; the input reads as it did. -/
def treeTidySpec : ChangeSpec := { name := "treeTidy", fn := fun _ => fun
  | [d] => { results := [.lit (.bool true)], args := [d] }
  | _ => none }
def treeTidyRow : OpenClaim := { program := "ytdonpgpfplgigaagreat", sum := "a381692295d30c05a1774e9d1d1814f7eb3d81939952bb1db039f3b4fc5d8281", func := "muniment/munimentlaw11.TreeTidy", spec := "treeTidy", inPlace := ["internal/bytealg.Compare", "slices.overlaps[[]byte]"], unfollowed := true, recurses := true, apart := false }
def TreeTidySaid : Prop := treeTidyRow.holds Tryz.pinned (OpenSpec.ofChange treeTidySpec)

/-- ITS FALSE NEIGHBOUR: 'it returns false'. Refute it at one input. -/
def treeTidyWrong : ChangeSpec := { name := "treeTidy", fn := fun _ => fun
  | [d] => { results := [.lit (.bool false)], args := [d] }
  | _ => none }
def TreeTidyWrongFalsely : Prop := treeTidyRow.holds Tryz.pinned (OpenSpec.ofChange treeTidyWrong)

/-- 'munimentlaw11.TreePlays': WHATEVER THE INPUT: true; the input reads as it did. -/
def treePlaysSpec : ChangeSpec := { name := "treePlays", fn := fun _ => fun
  | [d] => { results := [.lit (.bool true)], args := [d] }
  | _ => none }
def treePlaysRow : OpenClaim := { program := "ytdonpgpfplgigaagreat", sum := "a381692295d30c05a1774e9d1d1814f7eb3d81939952bb1db039f3b4fc5d8281", func := "muniment/munimentlaw11.TreePlays", spec := "treePlays", inPlace := ["internal/bytealg.Compare", "slices.overlaps[[]byte]"], unfollowed := true, recurses := true, apart := false }
def TreePlaysSaid : Prop := treePlaysRow.holds Tryz.pinned (OpenSpec.ofChange treePlaysSpec)

/-- ITS FALSE NEIGHBOUR: 'it returns false'. Refute it at one input. -/
def treePlaysWrong : ChangeSpec := { name := "treePlays", fn := fun _ => fun
  | [d] => { results := [.lit (.bool false)], args := [d] }
  | _ => none }
def TreePlaysWrongFalsely : Prop := treePlaysRow.holds Tryz.pinned (OpenSpec.ofChange treePlaysWrong)

/-- 'munimentlaw11.TreeEmpties': WHATEVER THE INPUT: true; the input reads as it did. -/
def treeEmptiesSpec : ChangeSpec := { name := "treeEmpties", fn := fun _ => fun
  | [d1, d2] => { results := [.lit (.bool true)], args := [d1, d2] }
  | _ => none }
def treeEmptiesRow : OpenClaim := { program := "ytdonpgpfplgigaagreat", sum := "a381692295d30c05a1774e9d1d1814f7eb3d81939952bb1db039f3b4fc5d8281", func := "muniment/munimentlaw11.TreeEmpties", spec := "treeEmpties", inPlace := ["internal/bytealg.Compare", "slices.overlaps[[]byte]"], unfollowed := true, recurses := true, apart := false }
def TreeEmptiesSaid : Prop := treeEmptiesRow.holds Tryz.pinned (OpenSpec.ofChange treeEmptiesSpec)

/-- ITS FALSE NEIGHBOUR: 'it returns false'. Refute it at one input. -/
def treeEmptiesWrong : ChangeSpec := { name := "treeEmpties", fn := fun _ => fun
  | [d1, d2] => { results := [.lit (.bool false)], args := [d1, d2] }
  | _ => none }
def TreeEmptiesWrongFalsely : Prop := treeEmptiesRow.holds Tryz.pinned (OpenSpec.ofChange treeEmptiesWrong)

/-- 'munimentlaw11.TreeDies': WHATEVER THE INPUT: true; the input reads as it did. -/
def treeDiesSpec : ChangeSpec := { name := "treeDies", fn := fun _ => fun
  | [d1, d2, d3] => { results := [.lit (.bool true)], args := [d1, d2, d3] }
  | _ => none }
def treeDiesRow : OpenClaim := { program := "ytdonpgpfplgigaagreat", sum := "a381692295d30c05a1774e9d1d1814f7eb3d81939952bb1db039f3b4fc5d8281", func := "muniment/munimentlaw11.TreeDies", spec := "treeDies", inPlace := ["internal/bytealg.Compare", "slices.overlaps[[]byte]"], unfollowed := true, recurses := true, apart := false }
def TreeDiesSaid : Prop := treeDiesRow.holds Tryz.pinned (OpenSpec.ofChange treeDiesSpec)

/-- ITS FALSE NEIGHBOUR: 'it returns false'. Refute it at one input. -/
def treeDiesWrong : ChangeSpec := { name := "treeDies", fn := fun _ => fun
  | [d1, d2, d3] => { results := [.lit (.bool false)], args := [d1, d2, d3] }
  | _ => none }
def TreeDiesWrongFalsely : Prop := treeDiesRow.holds Tryz.pinned (OpenSpec.ofChange treeDiesWrong)

/- THE SECOND FORM. 'bulk': how many values and letters a reading holds, each counted each time it is reached (what is shared counts as often as it is met; a slice's spare places count too). A statement '..UptoSaid' is the law's where the arguments, and the package variables that the reading takes, are together of bulk at most 1048576: NARROWER than '..Said'. Prove '..Said' where nothing that the law and all that it calls make is longer than what came in: it says more and counts as full. Else prove '..UptoSaid'. A law counts once. -/
mutual
def uptoBulk {H : Type} : DataW H → Nat
  | .lit (.string bytes) => bytes.length + 1
  | .lit _ => 1
  | .nil => 1
  | .ptr d => uptoBulk d + 1
  | .slice elems spare => uptoBulkAll elems + uptoBulkAll spare + 1
  | .agg parts => uptoBulkAll parts + 1
  | .iface _ d => uptoBulk d + 1
  | .map entries => uptoBulkEntries entries + 1
  | .held _ => 1
def uptoBulkAll {H : Type} : List (DataW H) → Nat
  | [] => 0
  | d :: r => uptoBulk d + uptoBulkAll r
def uptoBulkEntries {H : Type} : List (Lit × DataW H) → Nat
  | [] => 0
  | x :: r => uptoBulkEntry x + uptoBulkEntries r
def uptoBulkEntry {H : Type} : Lit × DataW H → Nat
  | (.string bytes, d) => bytes.length + uptoBulk d + 1
  | (_, d) => uptoBulk d + 1
 end
def uptoSmall : (H : Type) → List (DataW H) → Bool := fun _ ds => decide (uptoBulkAll ds ≤ 1048576)
def OpenSpec.upto (s : _root_.Go.ChangeSpec) : _root_.Go.OpenSpec := { _root_.Go.OpenSpec.ofChange s with cond := some uptoSmall }

/-- 'munimentlaw11.TreeKept', WHERE WHAT IT READS IS OF BULK AT MOST 1048576: true; the input reads as it did. -/
def treeKeptUptoRow : OpenClaim := { program := "ytdonpgpfplgigaagreat", sum := "a381692295d30c05a1774e9d1d1814f7eb3d81939952bb1db039f3b4fc5d8281", func := "muniment/munimentlaw11.TreeKept", spec := "treeKept", inPlace := ["internal/bytealg.Compare", "slices.overlaps[[]byte]"], unfollowed := true, recurses := true, apart := false, narrowed := true }
def TreeKeptUptoSaid : Prop := treeKeptUptoRow.holds Tryz.pinned (OpenSpec.upto treeKeptSpec)

/-- 'munimentlaw11.TreeFull', WHERE WHAT IT READS IS OF BULK AT MOST 1048576: true; the input reads as it did. -/
def treeFullUptoRow : OpenClaim := { program := "ytdonpgpfplgigaagreat", sum := "a381692295d30c05a1774e9d1d1814f7eb3d81939952bb1db039f3b4fc5d8281", func := "muniment/munimentlaw11.TreeFull", spec := "treeFull", inPlace := ["internal/bytealg.Compare", "slices.overlaps[[]byte]"], unfollowed := true, recurses := true, apart := false, narrowed := true }
def TreeFullUptoSaid : Prop := treeFullUptoRow.holds Tryz.pinned (OpenSpec.upto treeFullSpec)

/-- 'munimentlaw11.TreeMany', WHERE WHAT IT READS IS OF BULK AT MOST 1048576: true; the input reads as it did. -/
def treeManyUptoRow : OpenClaim := { program := "ytdonpgpfplgigaagreat", sum := "a381692295d30c05a1774e9d1d1814f7eb3d81939952bb1db039f3b4fc5d8281", func := "muniment/munimentlaw11.TreeMany", spec := "treeMany", inPlace := ["internal/bytealg.Compare", "slices.overlaps[[]byte]"], unfollowed := true, recurses := true, apart := false, narrowed := true }
def TreeManyUptoSaid : Prop := treeManyUptoRow.holds Tryz.pinned (OpenSpec.upto treeManySpec)

/-- 'munimentlaw11.TreeWalk', WHERE WHAT IT READS IS OF BULK AT MOST 1048576: true; the input reads as it did. -/
def treeWalkUptoRow : OpenClaim := { program := "ytdonpgpfplgigaagreat", sum := "a381692295d30c05a1774e9d1d1814f7eb3d81939952bb1db039f3b4fc5d8281", func := "muniment/munimentlaw11.TreeWalk", spec := "treeWalk", inPlace := ["internal/bytealg.Compare", "slices.overlaps[[]byte]"], unfollowed := true, recurses := true, apart := false, narrowed := true }
def TreeWalkUptoSaid : Prop := treeWalkUptoRow.holds Tryz.pinned (OpenSpec.upto treeWalkSpec)

/-- 'munimentlaw11.TreeTidy', WHERE WHAT IT READS IS OF BULK AT MOST 1048576: true; the input reads as it did. -/
def treeTidyUptoRow : OpenClaim := { program := "ytdonpgpfplgigaagreat", sum := "a381692295d30c05a1774e9d1d1814f7eb3d81939952bb1db039f3b4fc5d8281", func := "muniment/munimentlaw11.TreeTidy", spec := "treeTidy", inPlace := ["internal/bytealg.Compare", "slices.overlaps[[]byte]"], unfollowed := true, recurses := true, apart := false, narrowed := true }
def TreeTidyUptoSaid : Prop := treeTidyUptoRow.holds Tryz.pinned (OpenSpec.upto treeTidySpec)

/-- 'munimentlaw11.TreePlays', WHERE WHAT IT READS IS OF BULK AT MOST 1048576: true; the input reads as it did. -/
def treePlaysUptoRow : OpenClaim := { program := "ytdonpgpfplgigaagreat", sum := "a381692295d30c05a1774e9d1d1814f7eb3d81939952bb1db039f3b4fc5d8281", func := "muniment/munimentlaw11.TreePlays", spec := "treePlays", inPlace := ["internal/bytealg.Compare", "slices.overlaps[[]byte]"], unfollowed := true, recurses := true, apart := false, narrowed := true }
def TreePlaysUptoSaid : Prop := treePlaysUptoRow.holds Tryz.pinned (OpenSpec.upto treePlaysSpec)

/-- 'munimentlaw11.TreeEmpties', WHERE WHAT IT READS IS OF BULK AT MOST 1048576: true; the input reads as it did. -/
def treeEmptiesUptoRow : OpenClaim := { program := "ytdonpgpfplgigaagreat", sum := "a381692295d30c05a1774e9d1d1814f7eb3d81939952bb1db039f3b4fc5d8281", func := "muniment/munimentlaw11.TreeEmpties", spec := "treeEmpties", inPlace := ["internal/bytealg.Compare", "slices.overlaps[[]byte]"], unfollowed := true, recurses := true, apart := false, narrowed := true }
def TreeEmptiesUptoSaid : Prop := treeEmptiesUptoRow.holds Tryz.pinned (OpenSpec.upto treeEmptiesSpec)

/-- 'munimentlaw11.TreeDies', WHERE WHAT IT READS IS OF BULK AT MOST 1048576: true; the input reads as it did. -/
def treeDiesUptoRow : OpenClaim := { program := "ytdonpgpfplgigaagreat", sum := "a381692295d30c05a1774e9d1d1814f7eb3d81939952bb1db039f3b4fc5d8281", func := "muniment/munimentlaw11.TreeDies", spec := "treeDies", inPlace := ["internal/bytealg.Compare", "slices.overlaps[[]byte]"], unfollowed := true, recurses := true, apart := false, narrowed := true }
def TreeDiesUptoSaid : Prop := treeDiesUptoRow.holds Tryz.pinned (OpenSpec.upto treeDiesSpec)

end Rows
end Go.Proofs.YtdonpgpfplgigaaGreat
