/-
  No cell of these rows narrows 'for every input' (looked for: loops, veiled, ifaces, maps, wideKeys, modest, calm, conditions, laid).
  DERIVED. THE GIVEN ROWS OF THIS SEAT. 5 by the template 'for every input the law returns true; each argument reads behind the call as it read before'; 0 by the template 'total and deterministic' (their statements: YtdllelamfamfcaaGreatTotals.lean).
  GIVEN WITH THE SEED: the statements are not yours to turn. If you find one false, say at which input.
  Laid BY PROGRAM, IN A SANDBOX (cutbox-rows.mjs): the forced cells as the released guide's own fill.sh prints them over the translation 69a0a00576a679fd… (all of the seat's roots in one cut). By AI agents, Wed Nov 11 2026. No macro, syntax, notation, axiom, sorry.
-/
import Derived.Test.YtdllelamfamfcaaGreatChecked
import GoSem.Claim
import GoSem.ClaimJoined
import GoSem.ClaimMapViews
import Derived.JoinedTies
import Derived.KernelRfl
namespace Go.Proofs.YtdllelamfamfcaaGreat
/- THE CELL 'sum', in the pinned program and in every row, IS THE sha256 OF THE DUMP (.gsa) THAT YtdllelamfamfcaaGreatProg.lean LOADS. Nothing in Lean hashes anything: it is a label: what it is worth is what the hold of that sum in a sandbox is worth. -/
noncomputable def Tryz.pinned : Pinned := { name := "ytdllelamfamfcaagreat", sum := "69a0a00576a679fdb159c70f961d21049356b679aae689804e510276873c9957", checked := Tryz.checked }
namespace Rows
def none {H : Type} : Left H := { results := [], args := [] }

/-- 'munimentlaw10.SpaceKnown': WHATEVER THE INPUT: true; the input reads as it did. -/
def spaceKnownSpec : ChangeSpec := { name := "spaceKnown", fn := fun _ => fun
  | [] => { results := [.lit (.bool true)], args := [] }
  | _ => none }
def spaceKnownRow : OpenClaim := { program := "ytdllelamfamfcaagreat", sum := "69a0a00576a679fdb159c70f961d21049356b679aae689804e510276873c9957", func := "muniment/munimentlaw10.SpaceKnown", spec := "spaceKnown", unfollowed := true, recurses := true, apart := false }
def SpaceKnownSaid : Prop := spaceKnownRow.holds Tryz.pinned (OpenSpec.ofChange spaceKnownSpec)

/-- ITS FALSE NEIGHBOUR: 'it returns false'. Refute it at one input. -/
def spaceKnownWrong : ChangeSpec := { name := "spaceKnown", fn := fun _ => fun
  | [] => { results := [.lit (.bool false)], args := [] }
  | _ => none }
def SpaceKnownWrongFalsely : Prop := spaceKnownRow.holds Tryz.pinned (OpenSpec.ofChange spaceKnownWrong)

/-- 'munimentlaw12.ChainKnown': WHATEVER THE INPUT: true; the input reads as it did. -/
def chainKnownSpec : ChangeSpec := { name := "chainKnown", fn := fun _ => fun
  | [] => { results := [.lit (.bool true)], args := [] }
  | _ => none }
def chainKnownRow : OpenClaim := { program := "ytdllelamfamfcaagreat", sum := "69a0a00576a679fdb159c70f961d21049356b679aae689804e510276873c9957", func := "muniment/munimentlaw12.ChainKnown", spec := "chainKnown", unfollowed := true, recurses := true, apart := false }
def ChainKnownSaid : Prop := chainKnownRow.holds Tryz.pinned (OpenSpec.ofChange chainKnownSpec)

/-- ITS FALSE NEIGHBOUR: 'it returns false'. Refute it at one input. -/
def chainKnownWrong : ChangeSpec := { name := "chainKnown", fn := fun _ => fun
  | [] => { results := [.lit (.bool false)], args := [] }
  | _ => none }
def ChainKnownWrongFalsely : Prop := chainKnownRow.holds Tryz.pinned (OpenSpec.ofChange chainKnownWrong)

/-- 'munimentlaw10.SpaceBare': WHATEVER THE INPUT: true; the input reads as it did. -/
def spaceBareSpec : ChangeSpec := { name := "spaceBare", fn := fun _ => fun
  | [d] => { results := [.lit (.bool true)], args := [d] }
  | _ => none }
def spaceBareRow : OpenClaim := { program := "ytdllelamfamfcaagreat", sum := "69a0a00576a679fdb159c70f961d21049356b679aae689804e510276873c9957", func := "muniment/munimentlaw10.SpaceBare", spec := "spaceBare", unfollowed := true, recurses := true, apart := false }
def SpaceBareSaid : Prop := spaceBareRow.holds Tryz.pinned (OpenSpec.ofChange spaceBareSpec)

/-- ITS FALSE NEIGHBOUR: 'it returns false'. Refute it at one input. -/
def spaceBareWrong : ChangeSpec := { name := "spaceBare", fn := fun _ => fun
  | [d] => { results := [.lit (.bool false)], args := [d] }
  | _ => none }
def SpaceBareWrongFalsely : Prop := spaceBareRow.holds Tryz.pinned (OpenSpec.ofChange spaceBareWrong)

/-- 'munimentlaw11.TreeKnown': WHATEVER THE INPUT: true; the input reads as it did. -/
def treeKnownSpec : ChangeSpec := { name := "treeKnown", fn := fun _ => fun
  | [] => { results := [.lit (.bool true)], args := [] }
  | _ => none }
def treeKnownRow : OpenClaim := { program := "ytdllelamfamfcaagreat", sum := "69a0a00576a679fdb159c70f961d21049356b679aae689804e510276873c9957", func := "muniment/munimentlaw11.TreeKnown", spec := "treeKnown", inPlace := ["internal/bytealg.Compare", "slices.overlaps[[]byte]"], unfollowed := true, recurses := true, apart := false }
def TreeKnownSaid : Prop := treeKnownRow.holds Tryz.pinned (OpenSpec.ofChange treeKnownSpec)

/-- ITS FALSE NEIGHBOUR: 'it returns false'. Refute it at one input. -/
def treeKnownWrong : ChangeSpec := { name := "treeKnown", fn := fun _ => fun
  | [] => { results := [.lit (.bool false)], args := [] }
  | _ => none }
def TreeKnownWrongFalsely : Prop := treeKnownRow.holds Tryz.pinned (OpenSpec.ofChange treeKnownWrong)

/-- 'munimentlaw13.TxKnown': WHATEVER THE INPUT: true; the input reads as it did. -/
def txKnownSpec : ChangeSpec := { name := "txKnown", fn := fun _ => fun
  | [] => { results := [.lit (.bool true)], args := [] }
  | _ => none }
def txKnownRow : OpenClaim := { program := "ytdllelamfamfcaagreat", sum := "69a0a00576a679fdb159c70f961d21049356b679aae689804e510276873c9957", func := "muniment/munimentlaw13.TxKnown", spec := "txKnown", unfollowed := true, recurses := true, apart := false }
def TxKnownSaid : Prop := txKnownRow.holds Tryz.pinned (OpenSpec.ofChange txKnownSpec)

/-- ITS FALSE NEIGHBOUR: 'it returns false'. Refute it at one input. -/
def txKnownWrong : ChangeSpec := { name := "txKnown", fn := fun _ => fun
  | [] => { results := [.lit (.bool false)], args := [] }
  | _ => none }
def TxKnownWrongFalsely : Prop := txKnownRow.holds Tryz.pinned (OpenSpec.ofChange txKnownWrong)

/- THE SECOND FORM. 'bulk': how many values and letters a reading holds, each counted each time it is reached (what is shared counts as often as it is met; a slice's spare places count too). A statement '..UptoSaid' is the law's where the arguments, and the package variables that the reading takes, are together of bulk at most 1048576: NARROWER than '..Said'. Prove '..Said' where nothing that the law and all that it calls make is longer than what came in: it says more and counts as full. Else prove '..UptoSaid'. A law counts once. -/
mutual
def uptoBulk {H : Type} : DataW H → Nat
  | .lit (.string bytes) => bytes.length + 1
  | .lit _ => 1
  | .nil => 1
  | .ptr d => uptoBulk d + 1
  | .slice elems spare => uptoBulkAll elems + uptoBulkAll spare + 1
  | .agg parts => uptoBulkAll parts + 1
  | .iface _ d => uptoBulk d + 1
  | .map entries => uptoBulkEntries entries + 1
  | .held _ => 1
def uptoBulkAll {H : Type} : List (DataW H) → Nat
  | [] => 0
  | d :: r => uptoBulk d + uptoBulkAll r
def uptoBulkEntries {H : Type} : List (Lit × DataW H) → Nat
  | [] => 0
  | x :: r => uptoBulkEntry x + uptoBulkEntries r
def uptoBulkEntry {H : Type} : Lit × DataW H → Nat
  | (.string bytes, d) => bytes.length + uptoBulk d + 1
  | (_, d) => uptoBulk d + 1
 end
def uptoSmall : (H : Type) → List (DataW H) → Bool := fun _ ds => decide (uptoBulkAll ds ≤ 1048576)
def OpenSpec.upto (s : _root_.Go.ChangeSpec) : _root_.Go.OpenSpec := { _root_.Go.OpenSpec.ofChange s with cond := some uptoSmall }

/-- 'munimentlaw10.SpaceKnown', WHERE WHAT IT READS IS OF BULK AT MOST 1048576: true; the input reads as it did. -/
def spaceKnownUptoRow : OpenClaim := { program := "ytdllelamfamfcaagreat", sum := "69a0a00576a679fdb159c70f961d21049356b679aae689804e510276873c9957", func := "muniment/munimentlaw10.SpaceKnown", spec := "spaceKnown", unfollowed := true, recurses := true, apart := false, narrowed := true }
def SpaceKnownUptoSaid : Prop := spaceKnownUptoRow.holds Tryz.pinned (OpenSpec.upto spaceKnownSpec)

/-- 'munimentlaw12.ChainKnown', WHERE WHAT IT READS IS OF BULK AT MOST 1048576: true; the input reads as it did. -/
def chainKnownUptoRow : OpenClaim := { program := "ytdllelamfamfcaagreat", sum := "69a0a00576a679fdb159c70f961d21049356b679aae689804e510276873c9957", func := "muniment/munimentlaw12.ChainKnown", spec := "chainKnown", unfollowed := true, recurses := true, apart := false, narrowed := true }
def ChainKnownUptoSaid : Prop := chainKnownUptoRow.holds Tryz.pinned (OpenSpec.upto chainKnownSpec)

/-- 'munimentlaw10.SpaceBare', WHERE WHAT IT READS IS OF BULK AT MOST 1048576: true; the input reads as it did. -/
def spaceBareUptoRow : OpenClaim := { program := "ytdllelamfamfcaagreat", sum := "69a0a00576a679fdb159c70f961d21049356b679aae689804e510276873c9957", func := "muniment/munimentlaw10.SpaceBare", spec := "spaceBare", unfollowed := true, recurses := true, apart := false, narrowed := true }
def SpaceBareUptoSaid : Prop := spaceBareUptoRow.holds Tryz.pinned (OpenSpec.upto spaceBareSpec)

/-- 'munimentlaw11.TreeKnown', WHERE WHAT IT READS IS OF BULK AT MOST 1048576: true; the input reads as it did. -/
def treeKnownUptoRow : OpenClaim := { program := "ytdllelamfamfcaagreat", sum := "69a0a00576a679fdb159c70f961d21049356b679aae689804e510276873c9957", func := "muniment/munimentlaw11.TreeKnown", spec := "treeKnown", inPlace := ["internal/bytealg.Compare", "slices.overlaps[[]byte]"], unfollowed := true, recurses := true, apart := false, narrowed := true }
def TreeKnownUptoSaid : Prop := treeKnownUptoRow.holds Tryz.pinned (OpenSpec.upto treeKnownSpec)

/-- 'munimentlaw13.TxKnown', WHERE WHAT IT READS IS OF BULK AT MOST 1048576: true; the input reads as it did. -/
def txKnownUptoRow : OpenClaim := { program := "ytdllelamfamfcaagreat", sum := "69a0a00576a679fdb159c70f961d21049356b679aae689804e510276873c9957", func := "muniment/munimentlaw13.TxKnown", spec := "txKnown", unfollowed := true, recurses := true, apart := false, narrowed := true }
def TxKnownUptoSaid : Prop := txKnownUptoRow.holds Tryz.pinned (OpenSpec.upto txKnownSpec)

end Rows
end Go.Proofs.YtdllelamfamfcaaGreat
