/-
  No cell of these rows narrows 'for every input' (looked for: loops, veiled, ifaces, maps, wideKeys, modest, calm, conditions, laid).
  DERIVED. THE GIVEN ROWS OF THIS SEAT. 8 by the template 'for every input the law returns true; each argument reads behind the call as it read before'; 0 by the template 'total and deterministic' (their statements: YtefepnnfphdkpaaGreatTotals.lean).
  GIVEN WITH THE SEED: the statements are not yours to turn. If you find one false, say at which input.
  Laid BY PROGRAM, IN A SANDBOX (cutbox-rows.mjs): the forced cells as the released guide's own fill.sh prints them over the translation 7dfa70cd7a3df6f6… (all of the seat's roots in one cut). By AI agents, Wed Nov 11 2026. No macro, syntax, notation, axiom, sorry.
-/
import Derived.Test.YtefepnnfphdkpaaGreatChecked
import GoSem.Claim
import GoSem.ClaimJoined
import GoSem.ClaimMapViews
import Derived.JoinedTies
import Derived.KernelRfl
namespace Go.Proofs.YtefepnnfphdkpaaGreat
/- THE CELL 'sum', in the pinned program and in every row, IS THE sha256 OF THE DUMP (.gsa) THAT YtefepnnfphdkpaaGreatProg.lean LOADS. Nothing in Lean hashes anything: it is a label: what it is worth is what the hold of that sum in a sandbox is worth. -/
noncomputable def Tryz.pinned : Pinned := { name := "ytefepnnfphdkpaagreat", sum := "7dfa70cd7a3df6f6e87821807d191a064339b34a2d456fb47066bc04299d871a", checked := Tryz.checked }
namespace Rows
def none {H : Type} : Left H := { results := [], args := [] }

/-- 'munimentlaw12.ChainNeeds': WHATEVER THE INPUT: true; the input reads as it did. -/
def chainNeedsSpec : ChangeSpec := { name := "chainNeeds", fn := fun _ => fun
  | [d1, d2] => { results := [.lit (.bool true)], args := [d1, d2] }
  | _ => none }
def chainNeedsRow : OpenClaim := { program := "ytefepnnfphdkpaagreat", sum := "7dfa70cd7a3df6f6e87821807d191a064339b34a2d456fb47066bc04299d871a", func := "muniment/munimentlaw12.ChainNeeds", spec := "chainNeeds", unfollowed := true, recurses := true, apart := false }
def ChainNeedsSaid : Prop := chainNeedsRow.holds Tryz.pinned (OpenSpec.ofChange chainNeedsSpec)

/-- ITS FALSE NEIGHBOUR: 'it returns false'. Refute it at one input. -/
def chainNeedsWrong : ChangeSpec := { name := "chainNeeds", fn := fun _ => fun
  | [d1, d2] => { results := [.lit (.bool false)], args := [d1, d2] }
  | _ => none }
def ChainNeedsWrongFalsely : Prop := chainNeedsRow.holds Tryz.pinned (OpenSpec.ofChange chainNeedsWrong)

/-- 'munimentlaw10.SpaceAll': WHATEVER THE INPUT: true; the input reads as it did. -/
def spaceAllSpec : ChangeSpec := { name := "spaceAll", fn := fun _ => fun
  | [d1, d2] => { results := [.lit (.bool true)], args := [d1, d2] }
  | _ => none }
def spaceAllRow : OpenClaim := { program := "ytefepnnfphdkpaagreat", sum := "7dfa70cd7a3df6f6e87821807d191a064339b34a2d456fb47066bc04299d871a", func := "muniment/munimentlaw10.SpaceAll", spec := "spaceAll", unfollowed := true, recurses := true, apart := false }
def SpaceAllSaid : Prop := spaceAllRow.holds Tryz.pinned (OpenSpec.ofChange spaceAllSpec)

/-- ITS FALSE NEIGHBOUR: 'it returns false'. Refute it at one input. -/
def spaceAllWrong : ChangeSpec := { name := "spaceAll", fn := fun _ => fun
  | [d1, d2] => { results := [.lit (.bool false)], args := [d1, d2] }
  | _ => none }
def SpaceAllWrongFalsely : Prop := spaceAllRow.holds Tryz.pinned (OpenSpec.ofChange spaceAllWrong)

/-- 'munimentlaw12.ChainKept': WHATEVER THE INPUT: true; the input reads as it did. -/
def chainKeptSpec : ChangeSpec := { name := "chainKept", fn := fun _ => fun
  | [d1, d2] => { results := [.lit (.bool true)], args := [d1, d2] }
  | _ => none }
def chainKeptRow : OpenClaim := { program := "ytefepnnfphdkpaagreat", sum := "7dfa70cd7a3df6f6e87821807d191a064339b34a2d456fb47066bc04299d871a", func := "muniment/munimentlaw12.ChainKept", spec := "chainKept", unfollowed := true, recurses := true, apart := false }
def ChainKeptSaid : Prop := chainKeptRow.holds Tryz.pinned (OpenSpec.ofChange chainKeptSpec)

/-- ITS FALSE NEIGHBOUR: 'it returns false'. Refute it at one input. -/
def chainKeptWrong : ChangeSpec := { name := "chainKept", fn := fun _ => fun
  | [d1, d2] => { results := [.lit (.bool false)], args := [d1, d2] }
  | _ => none }
def ChainKeptWrongFalsely : Prop := chainKeptRow.holds Tryz.pinned (OpenSpec.ofChange chainKeptWrong)

/-- 'munimentlaw10.SpaceRoots': WHATEVER THE INPUT: true; the input reads as it did. -/
def spaceRootsSpec : ChangeSpec := { name := "spaceRoots", fn := fun _ => fun
  | [d1, d2] => { results := [.lit (.bool true)], args := [d1, d2] }
  | _ => none }
def spaceRootsRow : OpenClaim := { program := "ytefepnnfphdkpaagreat", sum := "7dfa70cd7a3df6f6e87821807d191a064339b34a2d456fb47066bc04299d871a", func := "muniment/munimentlaw10.SpaceRoots", spec := "spaceRoots", unfollowed := true, recurses := true, apart := false }
def SpaceRootsSaid : Prop := spaceRootsRow.holds Tryz.pinned (OpenSpec.ofChange spaceRootsSpec)

/-- ITS FALSE NEIGHBOUR: 'it returns false'. Refute it at one input. -/
def spaceRootsWrong : ChangeSpec := { name := "spaceRoots", fn := fun _ => fun
  | [d1, d2] => { results := [.lit (.bool false)], args := [d1, d2] }
  | _ => none }
def SpaceRootsWrongFalsely : Prop := spaceRootsRow.holds Tryz.pinned (OpenSpec.ofChange spaceRootsWrong)

/-- 'munimentlaw12.ChainFull': WHATEVER THE INPUT: true; the input reads as it did. -/
def chainFullSpec : ChangeSpec := { name := "chainFull", fn := fun _ => fun
  | [d1, d2] => { results := [.lit (.bool true)], args := [d1, d2] }
  | _ => none }
def chainFullRow : OpenClaim := { program := "ytefepnnfphdkpaagreat", sum := "7dfa70cd7a3df6f6e87821807d191a064339b34a2d456fb47066bc04299d871a", func := "muniment/munimentlaw12.ChainFull", spec := "chainFull", unfollowed := true, recurses := true, apart := false }
def ChainFullSaid : Prop := chainFullRow.holds Tryz.pinned (OpenSpec.ofChange chainFullSpec)

/-- ITS FALSE NEIGHBOUR: 'it returns false'. Refute it at one input. -/
def chainFullWrong : ChangeSpec := { name := "chainFull", fn := fun _ => fun
  | [d1, d2] => { results := [.lit (.bool false)], args := [d1, d2] }
  | _ => none }
def ChainFullWrongFalsely : Prop := chainFullRow.holds Tryz.pinned (OpenSpec.ofChange chainFullWrong)

/-- 'munimentlaw10.SpaceDies': WHATEVER THE INPUT: true; the input reads as it did. -/
def spaceDiesSpec : ChangeSpec := { name := "spaceDies", fn := fun _ => fun
  | [d1, d2, d3, d4] => { results := [.lit (.bool true)], args := [d1, d2, d3, d4] }
  | _ => none }
def spaceDiesRow : OpenClaim := { program := "ytefepnnfphdkpaagreat", sum := "7dfa70cd7a3df6f6e87821807d191a064339b34a2d456fb47066bc04299d871a", func := "muniment/munimentlaw10.SpaceDies", spec := "spaceDies", unfollowed := true, recurses := true, apart := false }
def SpaceDiesSaid : Prop := spaceDiesRow.holds Tryz.pinned (OpenSpec.ofChange spaceDiesSpec)

/-- ITS FALSE NEIGHBOUR: 'it returns false'. Refute it at one input. -/
def spaceDiesWrong : ChangeSpec := { name := "spaceDies", fn := fun _ => fun
  | [d1, d2, d3, d4] => { results := [.lit (.bool false)], args := [d1, d2, d3, d4] }
  | _ => none }
def SpaceDiesWrongFalsely : Prop := spaceDiesRow.holds Tryz.pinned (OpenSpec.ofChange spaceDiesWrong)

/-- 'munimentlaw12.ChainDies': WHATEVER THE INPUT: true; the input reads as it did. -/
def chainDiesSpec : ChangeSpec := { name := "chainDies", fn := fun _ => fun
  | [d1, d2, d3] => { results := [.lit (.bool true)], args := [d1, d2, d3] }
  | _ => none }
def chainDiesRow : OpenClaim := { program := "ytefepnnfphdkpaagreat", sum := "7dfa70cd7a3df6f6e87821807d191a064339b34a2d456fb47066bc04299d871a", func := "muniment/munimentlaw12.ChainDies", spec := "chainDies", unfollowed := true, recurses := true, apart := false }
def ChainDiesSaid : Prop := chainDiesRow.holds Tryz.pinned (OpenSpec.ofChange chainDiesSpec)

/-- ITS FALSE NEIGHBOUR: 'it returns false'. Refute it at one input. -/
def chainDiesWrong : ChangeSpec := { name := "chainDies", fn := fun _ => fun
  | [d1, d2, d3] => { results := [.lit (.bool false)], args := [d1, d2, d3] }
  | _ => none }
def ChainDiesWrongFalsely : Prop := chainDiesRow.holds Tryz.pinned (OpenSpec.ofChange chainDiesWrong)

/-- 'munimentlaw10.SpacePlays': WHATEVER THE INPUT: true; the input reads as it did. -/
def spacePlaysSpec : ChangeSpec := { name := "spacePlays", fn := fun _ => fun
  | [d1, d2] => { results := [.lit (.bool true)], args := [d1, d2] }
  | _ => none }
def spacePlaysRow : OpenClaim := { program := "ytefepnnfphdkpaagreat", sum := "7dfa70cd7a3df6f6e87821807d191a064339b34a2d456fb47066bc04299d871a", func := "muniment/munimentlaw10.SpacePlays", spec := "spacePlays", unfollowed := true, recurses := true, apart := false }
def SpacePlaysSaid : Prop := spacePlaysRow.holds Tryz.pinned (OpenSpec.ofChange spacePlaysSpec)

/-- ITS FALSE NEIGHBOUR: 'it returns false'. Refute it at one input. -/
def spacePlaysWrong : ChangeSpec := { name := "spacePlays", fn := fun _ => fun
  | [d1, d2] => { results := [.lit (.bool false)], args := [d1, d2] }
  | _ => none }
def SpacePlaysWrongFalsely : Prop := spacePlaysRow.holds Tryz.pinned (OpenSpec.ofChange spacePlaysWrong)

/- THE SECOND FORM. 'bulk': how many values and letters a reading holds, each counted each time it is reached (what is shared counts as often as it is met; a slice's spare places count too). A statement '..UptoSaid' is the law's where the arguments, and the package variables that the reading takes, are together of bulk at most 1048576: NARROWER than '..Said'. Prove '..Said' where nothing that the law and all that it calls make is longer than what came in: it says more and counts as full. Else prove '..UptoSaid'. A law counts once. -/
mutual
def uptoBulk {H : Type} : DataW H → Nat
  | .lit (.string bytes) => bytes.length + 1
  | .lit _ => 1
  | .nil => 1
  | .ptr d => uptoBulk d + 1
  | .slice elems spare => uptoBulkAll elems + uptoBulkAll spare + 1
  | .agg parts => uptoBulkAll parts + 1
  | .iface _ d => uptoBulk d + 1
  | .map entries => uptoBulkEntries entries + 1
  | .held _ => 1
def uptoBulkAll {H : Type} : List (DataW H) → Nat
  | [] => 0
  | d :: r => uptoBulk d + uptoBulkAll r
def uptoBulkEntries {H : Type} : List (Lit × DataW H) → Nat
  | [] => 0
  | x :: r => uptoBulkEntry x + uptoBulkEntries r
def uptoBulkEntry {H : Type} : Lit × DataW H → Nat
  | (.string bytes, d) => bytes.length + uptoBulk d + 1
  | (_, d) => uptoBulk d + 1
 end
def uptoSmall : (H : Type) → List (DataW H) → Bool := fun _ ds => decide (uptoBulkAll ds ≤ 1048576)
def OpenSpec.upto (s : _root_.Go.ChangeSpec) : _root_.Go.OpenSpec := { _root_.Go.OpenSpec.ofChange s with cond := some uptoSmall }

/-- 'munimentlaw12.ChainNeeds', WHERE WHAT IT READS IS OF BULK AT MOST 1048576: true; the input reads as it did. -/
def chainNeedsUptoRow : OpenClaim := { program := "ytefepnnfphdkpaagreat", sum := "7dfa70cd7a3df6f6e87821807d191a064339b34a2d456fb47066bc04299d871a", func := "muniment/munimentlaw12.ChainNeeds", spec := "chainNeeds", unfollowed := true, recurses := true, apart := false, narrowed := true }
def ChainNeedsUptoSaid : Prop := chainNeedsUptoRow.holds Tryz.pinned (OpenSpec.upto chainNeedsSpec)

/-- 'munimentlaw10.SpaceAll', WHERE WHAT IT READS IS OF BULK AT MOST 1048576: true; the input reads as it did. -/
def spaceAllUptoRow : OpenClaim := { program := "ytefepnnfphdkpaagreat", sum := "7dfa70cd7a3df6f6e87821807d191a064339b34a2d456fb47066bc04299d871a", func := "muniment/munimentlaw10.SpaceAll", spec := "spaceAll", unfollowed := true, recurses := true, apart := false, narrowed := true }
def SpaceAllUptoSaid : Prop := spaceAllUptoRow.holds Tryz.pinned (OpenSpec.upto spaceAllSpec)

/-- 'munimentlaw12.ChainKept', WHERE WHAT IT READS IS OF BULK AT MOST 1048576: true; the input reads as it did. -/
def chainKeptUptoRow : OpenClaim := { program := "ytefepnnfphdkpaagreat", sum := "7dfa70cd7a3df6f6e87821807d191a064339b34a2d456fb47066bc04299d871a", func := "muniment/munimentlaw12.ChainKept", spec := "chainKept", unfollowed := true, recurses := true, apart := false, narrowed := true }
def ChainKeptUptoSaid : Prop := chainKeptUptoRow.holds Tryz.pinned (OpenSpec.upto chainKeptSpec)

/-- 'munimentlaw10.SpaceRoots', WHERE WHAT IT READS IS OF BULK AT MOST 1048576: true; the input reads as it did. -/
def spaceRootsUptoRow : OpenClaim := { program := "ytefepnnfphdkpaagreat", sum := "7dfa70cd7a3df6f6e87821807d191a064339b34a2d456fb47066bc04299d871a", func := "muniment/munimentlaw10.SpaceRoots", spec := "spaceRoots", unfollowed := true, recurses := true, apart := false, narrowed := true }
def SpaceRootsUptoSaid : Prop := spaceRootsUptoRow.holds Tryz.pinned (OpenSpec.upto spaceRootsSpec)

/-- 'munimentlaw12.ChainFull', WHERE WHAT IT READS IS OF BULK AT MOST 1048576: true; the input reads as it did. -/
def chainFullUptoRow : OpenClaim := { program := "ytefepnnfphdkpaagreat", sum := "7dfa70cd7a3df6f6e87821807d191a064339b34a2d456fb47066bc04299d871a", func := "muniment/munimentlaw12.ChainFull", spec := "chainFull", unfollowed := true, recurses := true, apart := false, narrowed := true }
def ChainFullUptoSaid : Prop := chainFullUptoRow.holds Tryz.pinned (OpenSpec.upto chainFullSpec)

/-- 'munimentlaw10.SpaceDies', WHERE WHAT IT READS IS OF BULK AT MOST 1048576: true; the input reads as it did. -/
def spaceDiesUptoRow : OpenClaim := { program := "ytefepnnfphdkpaagreat", sum := "7dfa70cd7a3df6f6e87821807d191a064339b34a2d456fb47066bc04299d871a", func := "muniment/munimentlaw10.SpaceDies", spec := "spaceDies", unfollowed := true, recurses := true, apart := false, narrowed := true }
def SpaceDiesUptoSaid : Prop := spaceDiesUptoRow.holds Tryz.pinned (OpenSpec.upto spaceDiesSpec)

/-- 'munimentlaw12.ChainDies', WHERE WHAT IT READS IS OF BULK AT MOST 1048576: true; the input reads as it did. -/
def chainDiesUptoRow : OpenClaim := { program := "ytefepnnfphdkpaagreat", sum := "7dfa70cd7a3df6f6e87821807d191a064339b34a2d456fb47066bc04299d871a", func := "muniment/munimentlaw12.ChainDies", spec := "chainDies", unfollowed := true, recurses := true, apart := false, narrowed := true }
def ChainDiesUptoSaid : Prop := chainDiesUptoRow.holds Tryz.pinned (OpenSpec.upto chainDiesSpec)

/-- 'munimentlaw10.SpacePlays', WHERE WHAT IT READS IS OF BULK AT MOST 1048576: true; the input reads as it did. -/
def spacePlaysUptoRow : OpenClaim := { program := "ytefepnnfphdkpaagreat", sum := "7dfa70cd7a3df6f6e87821807d191a064339b34a2d456fb47066bc04299d871a", func := "muniment/munimentlaw10.SpacePlays", spec := "spacePlays", unfollowed := true, recurses := true, apart := false, narrowed := true }
def SpacePlaysUptoSaid : Prop := spacePlaysUptoRow.holds Tryz.pinned (OpenSpec.upto spacePlaysSpec)

end Rows
end Go.Proofs.YtefepnnfphdkpaaGreat
