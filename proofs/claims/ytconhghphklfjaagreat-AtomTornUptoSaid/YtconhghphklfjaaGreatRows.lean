/-
  No cell of these rows narrows 'for every input' (looked for: loops, veiled, ifaces, maps, wideKeys, modest, calm, conditions, laid).
  DERIVED. THE GIVEN ROWS OF THIS SEAT. 8 by the template 'for every input the law returns true; each argument reads behind the call as it read before'; 0 by the template 'total and deterministic' (their statements: YtconhghphklfjaaGreatTotals.lean).
  GIVEN WITH THE SEED: the statements are not yours to turn. If you find one false, say at which input.
  Laid BY PROGRAM, IN A SANDBOX (cutbox-rows.mjs): the forced cells as the released guide's own fill.sh prints them over the translation 600ee9fbf32fb945… (all of the seat's roots in one cut). By AI agents, Wed Nov 11 2026. No macro, syntax, notation, axiom, sorry.
-/
import Derived.Test.YtconhghphklfjaaGreatChecked
import GoSem.Claim
import GoSem.ClaimJoined
import GoSem.ClaimMapViews
import Derived.JoinedTies
import Derived.KernelRfl
namespace Go.Proofs.YtconhghphklfjaaGreat
/- THE CELL 'sum', in the pinned program and in every row, IS THE sha256 OF THE DUMP (.gsa) THAT YtconhghphklfjaaGreatProg.lean LOADS. Nothing in Lean hashes anything: it is a label: what it is worth is what the hold of that sum in a sandbox is worth. -/
noncomputable def Tryz.pinned : Pinned := { name := "ytconhghphklfjaagreat", sum := "600ee9fbf32fb9450a9d6d0113f8b2eedf233397f10fb9f9a8fc6d50695e430b", checked := Tryz.checked }
namespace Rows
def none {H : Type} : Left H := { results := [], args := [] }

/-- 'munimentlaw9.AtomKnown': WHATEVER THE INPUT: true; the input reads as it did. -/
def atomKnownSpec : ChangeSpec := { name := "atomKnown", fn := fun _ => fun
  | [] => { results := [.lit (.bool true)], args := [] }
  | _ => none }
def atomKnownRow : OpenClaim := { program := "ytconhghphklfjaagreat", sum := "600ee9fbf32fb9450a9d6d0113f8b2eedf233397f10fb9f9a8fc6d50695e430b", func := "muniment/munimentlaw9.AtomKnown", spec := "atomKnown", unfollowed := true, recurses := true, apart := false }
def AtomKnownSaid : Prop := atomKnownRow.holds Tryz.pinned (OpenSpec.ofChange atomKnownSpec)

/-- ITS FALSE NEIGHBOUR: 'it returns false'. Refute it at one input. -/
def atomKnownWrong : ChangeSpec := { name := "atomKnown", fn := fun _ => fun
  | [] => { results := [.lit (.bool false)], args := [] }
  | _ => none }
def AtomKnownWrongFalsely : Prop := atomKnownRow.holds Tryz.pinned (OpenSpec.ofChange atomKnownWrong)

/-- 'munimentlaw9.AtomErrors': WHATEVER THE INPUT: true; the input reads as it did. -/
def atomErrorsSpec : ChangeSpec := { name := "atomErrors", fn := fun _ => fun
  | [d1, d2, d3] => { results := [.lit (.bool true)], args := [d1, d2, d3] }
  | _ => none }
def atomErrorsRow : OpenClaim := { program := "ytconhghphklfjaagreat", sum := "600ee9fbf32fb9450a9d6d0113f8b2eedf233397f10fb9f9a8fc6d50695e430b", func := "muniment/munimentlaw9.AtomErrors", spec := "atomErrors", unfollowed := true, recurses := true, apart := false }
def AtomErrorsSaid : Prop := atomErrorsRow.holds Tryz.pinned (OpenSpec.ofChange atomErrorsSpec)

/-- ITS FALSE NEIGHBOUR: 'it returns false'. Refute it at one input. -/
def atomErrorsWrong : ChangeSpec := { name := "atomErrors", fn := fun _ => fun
  | [d1, d2, d3] => { results := [.lit (.bool false)], args := [d1, d2, d3] }
  | _ => none }
def AtomErrorsWrongFalsely : Prop := atomErrorsRow.holds Tryz.pinned (OpenSpec.ofChange atomErrorsWrong)

/-- 'munimentlaw9.AtomPlays': WHATEVER THE INPUT: true; the input reads as it did. -/
def atomPlaysSpec : ChangeSpec := { name := "atomPlays", fn := fun _ => fun
  | [d1, d2] => { results := [.lit (.bool true)], args := [d1, d2] }
  | _ => none }
def atomPlaysRow : OpenClaim := { program := "ytconhghphklfjaagreat", sum := "600ee9fbf32fb9450a9d6d0113f8b2eedf233397f10fb9f9a8fc6d50695e430b", func := "muniment/munimentlaw9.AtomPlays", spec := "atomPlays", unfollowed := true, recurses := true, apart := false }
def AtomPlaysSaid : Prop := atomPlaysRow.holds Tryz.pinned (OpenSpec.ofChange atomPlaysSpec)

/-- ITS FALSE NEIGHBOUR: 'it returns false'. Refute it at one input. -/
def atomPlaysWrong : ChangeSpec := { name := "atomPlays", fn := fun _ => fun
  | [d1, d2] => { results := [.lit (.bool false)], args := [d1, d2] }
  | _ => none }
def AtomPlaysWrongFalsely : Prop := atomPlaysRow.holds Tryz.pinned (OpenSpec.ofChange atomPlaysWrong)

/-- 'munimentlaw9.AtomLogs': WHATEVER THE INPUT: true; the input reads as it did. -/
def atomLogsSpec : ChangeSpec := { name := "atomLogs", fn := fun _ => fun
  | [d1, d2] => { results := [.lit (.bool true)], args := [d1, d2] }
  | _ => none }
def atomLogsRow : OpenClaim := { program := "ytconhghphklfjaagreat", sum := "600ee9fbf32fb9450a9d6d0113f8b2eedf233397f10fb9f9a8fc6d50695e430b", func := "muniment/munimentlaw9.AtomLogs", spec := "atomLogs", unfollowed := true, recurses := true, apart := false }
def AtomLogsSaid : Prop := atomLogsRow.holds Tryz.pinned (OpenSpec.ofChange atomLogsSpec)

/-- ITS FALSE NEIGHBOUR: 'it returns false'. Refute it at one input. -/
def atomLogsWrong : ChangeSpec := { name := "atomLogs", fn := fun _ => fun
  | [d1, d2] => { results := [.lit (.bool false)], args := [d1, d2] }
  | _ => none }
def AtomLogsWrongFalsely : Prop := atomLogsRow.holds Tryz.pinned (OpenSpec.ofChange atomLogsWrong)

/-- 'munimentlaw9.AtomSame': WHATEVER THE INPUT: true; the input reads as it did. -/
def atomSameSpec : ChangeSpec := { name := "atomSame", fn := fun _ => fun
  | [d] => { results := [.lit (.bool true)], args := [d] }
  | _ => none }
def atomSameRow : OpenClaim := { program := "ytconhghphklfjaagreat", sum := "600ee9fbf32fb9450a9d6d0113f8b2eedf233397f10fb9f9a8fc6d50695e430b", func := "muniment/munimentlaw9.AtomSame", spec := "atomSame", unfollowed := true, recurses := true, apart := false }
def AtomSameSaid : Prop := atomSameRow.holds Tryz.pinned (OpenSpec.ofChange atomSameSpec)

/-- ITS FALSE NEIGHBOUR: 'it returns false'. Refute it at one input. -/
def atomSameWrong : ChangeSpec := { name := "atomSame", fn := fun _ => fun
  | [d] => { results := [.lit (.bool false)], args := [d] }
  | _ => none }
def AtomSameWrongFalsely : Prop := atomSameRow.holds Tryz.pinned (OpenSpec.ofChange atomSameWrong)

/-- 'munimentlaw9.AtomCuts': WHATEVER THE INPUT: true; the input reads as it did. -/
def atomCutsSpec : ChangeSpec := { name := "atomCuts", fn := fun _ => fun
  | [d1, d2, d3] => { results := [.lit (.bool true)], args := [d1, d2, d3] }
  | _ => none }
def atomCutsRow : OpenClaim := { program := "ytconhghphklfjaagreat", sum := "600ee9fbf32fb9450a9d6d0113f8b2eedf233397f10fb9f9a8fc6d50695e430b", func := "muniment/munimentlaw9.AtomCuts", spec := "atomCuts", unfollowed := true, recurses := true, apart := false }
def AtomCutsSaid : Prop := atomCutsRow.holds Tryz.pinned (OpenSpec.ofChange atomCutsSpec)

/-- ITS FALSE NEIGHBOUR: 'it returns false'. Refute it at one input. -/
def atomCutsWrong : ChangeSpec := { name := "atomCuts", fn := fun _ => fun
  | [d1, d2, d3] => { results := [.lit (.bool false)], args := [d1, d2, d3] }
  | _ => none }
def AtomCutsWrongFalsely : Prop := atomCutsRow.holds Tryz.pinned (OpenSpec.ofChange atomCutsWrong)

/-- 'munimentlaw9.AtomDies': WHATEVER THE INPUT: true; the input reads as it did. -/
def atomDiesSpec : ChangeSpec := { name := "atomDies", fn := fun _ => fun
  | [d1, d2, d3, d4, d5, d6] => { results := [.lit (.bool true)], args := [d1, d2, d3, d4, d5, d6] }
  | _ => none }
def atomDiesRow : OpenClaim := { program := "ytconhghphklfjaagreat", sum := "600ee9fbf32fb9450a9d6d0113f8b2eedf233397f10fb9f9a8fc6d50695e430b", func := "muniment/munimentlaw9.AtomDies", spec := "atomDies", unfollowed := true, recurses := true, apart := false }
def AtomDiesSaid : Prop := atomDiesRow.holds Tryz.pinned (OpenSpec.ofChange atomDiesSpec)

/-- ITS FALSE NEIGHBOUR: 'it returns false'. Refute it at one input. -/
def atomDiesWrong : ChangeSpec := { name := "atomDies", fn := fun _ => fun
  | [d1, d2, d3, d4, d5, d6] => { results := [.lit (.bool false)], args := [d1, d2, d3, d4, d5, d6] }
  | _ => none }
def AtomDiesWrongFalsely : Prop := atomDiesRow.holds Tryz.pinned (OpenSpec.ofChange atomDiesWrong)

/-- 'munimentlaw9.AtomTorn': WHATEVER THE INPUT: true; the input reads as it did. -/
def atomTornSpec : ChangeSpec := { name := "atomTorn", fn := fun _ => fun
  | [d1, d2, d3, d4] => { results := [.lit (.bool true)], args := [d1, d2, d3, d4] }
  | _ => none }
def atomTornRow : OpenClaim := { program := "ytconhghphklfjaagreat", sum := "600ee9fbf32fb9450a9d6d0113f8b2eedf233397f10fb9f9a8fc6d50695e430b", func := "muniment/munimentlaw9.AtomTorn", spec := "atomTorn", unfollowed := true, recurses := true, apart := false }
def AtomTornSaid : Prop := atomTornRow.holds Tryz.pinned (OpenSpec.ofChange atomTornSpec)

/-- ITS FALSE NEIGHBOUR: 'it returns false'. Refute it at one input. -/
def atomTornWrong : ChangeSpec := { name := "atomTorn", fn := fun _ => fun
  | [d1, d2, d3, d4] => { results := [.lit (.bool false)], args := [d1, d2, d3, d4] }
  | _ => none }
def AtomTornWrongFalsely : Prop := atomTornRow.holds Tryz.pinned (OpenSpec.ofChange atomTornWrong)

/- THE SECOND FORM. 'bulk': how many values and letters a reading holds, each counted each time it is reached (what is shared counts as often as it is met; a slice's spare places count too). A statement '..UptoSaid' is the law's where the arguments, and the package variables that the reading takes, are together of bulk at most 1048576: NARROWER than '..Said'. Prove '..Said' where nothing that the law and all that it calls make is longer than what came in: it says more and counts as full. Else prove '..UptoSaid'. A law counts once. -/
mutual
def uptoBulk {H : Type} : DataW H → Nat
  | .lit (.string bytes) => bytes.length + 1
  | .lit _ => 1
  | .nil => 1
  | .ptr d => uptoBulk d + 1
  | .slice elems spare => uptoBulkAll elems + uptoBulkAll spare + 1
  | .agg parts => uptoBulkAll parts + 1
  | .iface _ d => uptoBulk d + 1
  | .map entries => uptoBulkEntries entries + 1
  | .held _ => 1
def uptoBulkAll {H : Type} : List (DataW H) → Nat
  | [] => 0
  | d :: r => uptoBulk d + uptoBulkAll r
def uptoBulkEntries {H : Type} : List (Lit × DataW H) → Nat
  | [] => 0
  | x :: r => uptoBulkEntry x + uptoBulkEntries r
def uptoBulkEntry {H : Type} : Lit × DataW H → Nat
  | (.string bytes, d) => bytes.length + uptoBulk d + 1
  | (_, d) => uptoBulk d + 1
 end
def uptoSmall : (H : Type) → List (DataW H) → Bool := fun _ ds => decide (uptoBulkAll ds ≤ 1048576)
def OpenSpec.upto (s : _root_.Go.ChangeSpec) : _root_.Go.OpenSpec := { _root_.Go.OpenSpec.ofChange s with cond := some uptoSmall }

/-- 'munimentlaw9.AtomKnown', WHERE WHAT IT READS IS OF BULK AT MOST 1048576: true; the input reads as it did. -/
def atomKnownUptoRow : OpenClaim := { program := "ytconhghphklfjaagreat", sum := "600ee9fbf32fb9450a9d6d0113f8b2eedf233397f10fb9f9a8fc6d50695e430b", func := "muniment/munimentlaw9.AtomKnown", spec := "atomKnown", unfollowed := true, recurses := true, apart := false, narrowed := true }
def AtomKnownUptoSaid : Prop := atomKnownUptoRow.holds Tryz.pinned (OpenSpec.upto atomKnownSpec)

/-- 'munimentlaw9.AtomErrors', WHERE WHAT IT READS IS OF BULK AT MOST 1048576: true; the input reads as it did. -/
def atomErrorsUptoRow : OpenClaim := { program := "ytconhghphklfjaagreat", sum := "600ee9fbf32fb9450a9d6d0113f8b2eedf233397f10fb9f9a8fc6d50695e430b", func := "muniment/munimentlaw9.AtomErrors", spec := "atomErrors", unfollowed := true, recurses := true, apart := false, narrowed := true }
def AtomErrorsUptoSaid : Prop := atomErrorsUptoRow.holds Tryz.pinned (OpenSpec.upto atomErrorsSpec)

/-- 'munimentlaw9.AtomPlays', WHERE WHAT IT READS IS OF BULK AT MOST 1048576: true; the input reads as it did. -/
def atomPlaysUptoRow : OpenClaim := { program := "ytconhghphklfjaagreat", sum := "600ee9fbf32fb9450a9d6d0113f8b2eedf233397f10fb9f9a8fc6d50695e430b", func := "muniment/munimentlaw9.AtomPlays", spec := "atomPlays", unfollowed := true, recurses := true, apart := false, narrowed := true }
def AtomPlaysUptoSaid : Prop := atomPlaysUptoRow.holds Tryz.pinned (OpenSpec.upto atomPlaysSpec)

/-- 'munimentlaw9.AtomLogs', WHERE WHAT IT READS IS OF BULK AT MOST 1048576: true; the input reads as it did. -/
def atomLogsUptoRow : OpenClaim := { program := "ytconhghphklfjaagreat", sum := "600ee9fbf32fb9450a9d6d0113f8b2eedf233397f10fb9f9a8fc6d50695e430b", func := "muniment/munimentlaw9.AtomLogs", spec := "atomLogs", unfollowed := true, recurses := true, apart := false, narrowed := true }
def AtomLogsUptoSaid : Prop := atomLogsUptoRow.holds Tryz.pinned (OpenSpec.upto atomLogsSpec)

/-- 'munimentlaw9.AtomSame', WHERE WHAT IT READS IS OF BULK AT MOST 1048576: true; the input reads as it did. -/
def atomSameUptoRow : OpenClaim := { program := "ytconhghphklfjaagreat", sum := "600ee9fbf32fb9450a9d6d0113f8b2eedf233397f10fb9f9a8fc6d50695e430b", func := "muniment/munimentlaw9.AtomSame", spec := "atomSame", unfollowed := true, recurses := true, apart := false, narrowed := true }
def AtomSameUptoSaid : Prop := atomSameUptoRow.holds Tryz.pinned (OpenSpec.upto atomSameSpec)

/-- 'munimentlaw9.AtomCuts', WHERE WHAT IT READS IS OF BULK AT MOST 1048576: true; the input reads as it did. -/
def atomCutsUptoRow : OpenClaim := { program := "ytconhghphklfjaagreat", sum := "600ee9fbf32fb9450a9d6d0113f8b2eedf233397f10fb9f9a8fc6d50695e430b", func := "muniment/munimentlaw9.AtomCuts", spec := "atomCuts", unfollowed := true, recurses := true, apart := false, narrowed := true }
def AtomCutsUptoSaid : Prop := atomCutsUptoRow.holds Tryz.pinned (OpenSpec.upto atomCutsSpec)

/-- 'munimentlaw9.AtomDies', WHERE WHAT IT READS IS OF BULK AT MOST 1048576: true; the input reads as it did. -/
def atomDiesUptoRow : OpenClaim := { program := "ytconhghphklfjaagreat", sum := "600ee9fbf32fb9450a9d6d0113f8b2eedf233397f10fb9f9a8fc6d50695e430b", func := "muniment/munimentlaw9.AtomDies", spec := "atomDies", unfollowed := true, recurses := true, apart := false, narrowed := true }
def AtomDiesUptoSaid : Prop := atomDiesUptoRow.holds Tryz.pinned (OpenSpec.upto atomDiesSpec)

/-- 'munimentlaw9.AtomTorn', WHERE WHAT IT READS IS OF BULK AT MOST 1048576: true; the input reads as it did. -/
def atomTornUptoRow : OpenClaim := { program := "ytconhghphklfjaagreat", sum := "600ee9fbf32fb9450a9d6d0113f8b2eedf233397f10fb9f9a8fc6d50695e430b", func := "muniment/munimentlaw9.AtomTorn", spec := "atomTorn", unfollowed := true, recurses := true, apart := false, narrowed := true }
def AtomTornUptoSaid : Prop := atomTornUptoRow.holds Tryz.pinned (OpenSpec.upto atomTornSpec)

end Rows
end Go.Proofs.YtconhghphklfjaaGreat
