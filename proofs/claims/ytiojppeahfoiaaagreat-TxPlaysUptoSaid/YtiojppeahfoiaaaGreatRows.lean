/-
  No cell of these rows narrows 'for every input' (looked for: loops, veiled, ifaces, maps, wideKeys, modest, calm, conditions, laid).
  DERIVED. THE GIVEN ROWS OF THIS SEAT. 8 by the template 'for every input the law returns true; each argument reads behind the call as it read before'; 0 by the template 'total and deterministic' (their statements: YtiojppeahfoiaaaGreatTotals.lean).
  GIVEN WITH THE SEED: the statements are not yours to turn. If you find one false, say at which input.
  Laid BY PROGRAM, IN A SANDBOX (cutbox-rows.mjs): the forced cells as the released guide's own fill.sh prints them over the translation dbfed627e5995aef… (all of the seat's roots in one cut). By AI agents, Wed Nov 11 2026. No macro, syntax, notation, axiom, sorry.
-/
import Derived.Test.YtiojppeahfoiaaaGreatChecked
import GoSem.Claim
import GoSem.ClaimJoined
import GoSem.ClaimMapViews
import Derived.JoinedTies
import Derived.KernelRfl
namespace Go.Proofs.YtiojppeahfoiaaaGreat
/- THE CELL 'sum', in the pinned program and in every row, IS THE sha256 OF THE DUMP (.gsa) THAT YtiojppeahfoiaaaGreatProg.lean LOADS. Nothing in Lean hashes anything: it is a label: what it is worth is what the hold of that sum in a sandbox is worth. -/
noncomputable def Tryz.pinned : Pinned := { name := "ytiojppeahfoiaaagreat", sum := "dbfed627e5995aef52cefafa40ff4551271d2267c1d3171cbfc89e7967fd122f", checked := Tryz.checked }
namespace Rows
def none {H : Type} : Left H := { results := [], args := [] }

/-- 'munimentlaw9.AtomDies': WHATEVER THE INPUT: true; the input reads as it did. -/
def atomDiesSpec : ChangeSpec := { name := "atomDies", fn := fun _ => fun
  | [d1, d2, d3, d4, d5, d6] => { results := [.lit (.bool true)], args := [d1, d2, d3, d4, d5, d6] }
  | _ => none }
def atomDiesRow : OpenClaim := { program := "ytiojppeahfoiaaagreat", sum := "dbfed627e5995aef52cefafa40ff4551271d2267c1d3171cbfc89e7967fd122f", func := "muniment/munimentlaw9.AtomDies", spec := "atomDies", unfollowed := true, recurses := true, apart := false }
def AtomDiesSaid : Prop := atomDiesRow.holds Tryz.pinned (OpenSpec.ofChange atomDiesSpec)

/-- ITS FALSE NEIGHBOUR: 'it returns false'. Refute it at one input. -/
def atomDiesWrong : ChangeSpec := { name := "atomDies", fn := fun _ => fun
  | [d1, d2, d3, d4, d5, d6] => { results := [.lit (.bool false)], args := [d1, d2, d3, d4, d5, d6] }
  | _ => none }
def AtomDiesWrongFalsely : Prop := atomDiesRow.holds Tryz.pinned (OpenSpec.ofChange atomDiesWrong)

/-- 'munimentlaw13.TxOrders': WHATEVER THE INPUT: true; the input reads as it did. -/
def txOrdersSpec : ChangeSpec := { name := "txOrders", fn := fun _ => fun
  | [d1, d2, d3, d4, d5] => { results := [.lit (.bool true)], args := [d1, d2, d3, d4, d5] }
  | _ => none }
def txOrdersRow : OpenClaim := { program := "ytiojppeahfoiaaagreat", sum := "dbfed627e5995aef52cefafa40ff4551271d2267c1d3171cbfc89e7967fd122f", func := "muniment/munimentlaw13.TxOrders", spec := "txOrders", unfollowed := true, recurses := true, apart := false }
def TxOrdersSaid : Prop := txOrdersRow.holds Tryz.pinned (OpenSpec.ofChange txOrdersSpec)

/-- ITS FALSE NEIGHBOUR: 'it returns false'. Refute it at one input. -/
def txOrdersWrong : ChangeSpec := { name := "txOrders", fn := fun _ => fun
  | [d1, d2, d3, d4, d5] => { results := [.lit (.bool false)], args := [d1, d2, d3, d4, d5] }
  | _ => none }
def TxOrdersWrongFalsely : Prop := txOrdersRow.holds Tryz.pinned (OpenSpec.ofChange txOrdersWrong)

/-- 'munimentlaw13.TxLong': WHATEVER THE INPUT: true; the input reads as it did. -/
def txLongSpec : ChangeSpec := { name := "txLong", fn := fun _ => fun
  | [d1, d2] => { results := [.lit (.bool true)], args := [d1, d2] }
  | _ => none }
def txLongRow : OpenClaim := { program := "ytiojppeahfoiaaagreat", sum := "dbfed627e5995aef52cefafa40ff4551271d2267c1d3171cbfc89e7967fd122f", func := "muniment/munimentlaw13.TxLong", spec := "txLong", unfollowed := true, recurses := true, apart := false }
def TxLongSaid : Prop := txLongRow.holds Tryz.pinned (OpenSpec.ofChange txLongSpec)

/-- ITS FALSE NEIGHBOUR: 'it returns false'. Refute it at one input. -/
def txLongWrong : ChangeSpec := { name := "txLong", fn := fun _ => fun
  | [d1, d2] => { results := [.lit (.bool false)], args := [d1, d2] }
  | _ => none }
def TxLongWrongFalsely : Prop := txLongRow.holds Tryz.pinned (OpenSpec.ofChange txLongWrong)

/-- 'munimentlaw13.TxUndone': WHATEVER THE INPUT: true; the input reads as it did. -/
def txUndoneSpec : ChangeSpec := { name := "txUndone", fn := fun _ => fun
  | [d1, d2, d3] => { results := [.lit (.bool true)], args := [d1, d2, d3] }
  | _ => none }
def txUndoneRow : OpenClaim := { program := "ytiojppeahfoiaaagreat", sum := "dbfed627e5995aef52cefafa40ff4551271d2267c1d3171cbfc89e7967fd122f", func := "muniment/munimentlaw13.TxUndone", spec := "txUndone", unfollowed := true, recurses := true, apart := false }
def TxUndoneSaid : Prop := txUndoneRow.holds Tryz.pinned (OpenSpec.ofChange txUndoneSpec)

/-- ITS FALSE NEIGHBOUR: 'it returns false'. Refute it at one input. -/
def txUndoneWrong : ChangeSpec := { name := "txUndone", fn := fun _ => fun
  | [d1, d2, d3] => { results := [.lit (.bool false)], args := [d1, d2, d3] }
  | _ => none }
def TxUndoneWrongFalsely : Prop := txUndoneRow.holds Tryz.pinned (OpenSpec.ofChange txUndoneWrong)

/-- 'munimentlaw13.TxBare': WHATEVER THE INPUT: true; the input reads as it did. -/
def txBareSpec : ChangeSpec := { name := "txBare", fn := fun _ => fun
  | [d1, d2] => { results := [.lit (.bool true)], args := [d1, d2] }
  | _ => none }
def txBareRow : OpenClaim := { program := "ytiojppeahfoiaaagreat", sum := "dbfed627e5995aef52cefafa40ff4551271d2267c1d3171cbfc89e7967fd122f", func := "muniment/munimentlaw13.TxBare", spec := "txBare", unfollowed := true, recurses := true, apart := false }
def TxBareSaid : Prop := txBareRow.holds Tryz.pinned (OpenSpec.ofChange txBareSpec)

/-- ITS FALSE NEIGHBOUR: 'it returns false'. Refute it at one input. -/
def txBareWrong : ChangeSpec := { name := "txBare", fn := fun _ => fun
  | [d1, d2] => { results := [.lit (.bool false)], args := [d1, d2] }
  | _ => none }
def TxBareWrongFalsely : Prop := txBareRow.holds Tryz.pinned (OpenSpec.ofChange txBareWrong)

/-- 'munimentlaw13.TxPlays': WHATEVER THE INPUT: true; the input reads as it did. -/
def txPlaysSpec : ChangeSpec := { name := "txPlays", fn := fun _ => fun
  | [d1, d2] => { results := [.lit (.bool true)], args := [d1, d2] }
  | _ => none }
def txPlaysRow : OpenClaim := { program := "ytiojppeahfoiaaagreat", sum := "dbfed627e5995aef52cefafa40ff4551271d2267c1d3171cbfc89e7967fd122f", func := "muniment/munimentlaw13.TxPlays", spec := "txPlays", unfollowed := true, recurses := true, apart := false }
def TxPlaysSaid : Prop := txPlaysRow.holds Tryz.pinned (OpenSpec.ofChange txPlaysSpec)

/-- ITS FALSE NEIGHBOUR: 'it returns false'. Refute it at one input. -/
def txPlaysWrong : ChangeSpec := { name := "txPlays", fn := fun _ => fun
  | [d1, d2] => { results := [.lit (.bool false)], args := [d1, d2] }
  | _ => none }
def TxPlaysWrongFalsely : Prop := txPlaysRow.holds Tryz.pinned (OpenSpec.ofChange txPlaysWrong)

/-- 'munimentlaw13.TxNumbers': WHATEVER THE INPUT: true; the input reads as it did. -/
def txNumbersSpec : ChangeSpec := { name := "txNumbers", fn := fun _ => fun
  | [d1, d2] => { results := [.lit (.bool true)], args := [d1, d2] }
  | _ => none }
def txNumbersRow : OpenClaim := { program := "ytiojppeahfoiaaagreat", sum := "dbfed627e5995aef52cefafa40ff4551271d2267c1d3171cbfc89e7967fd122f", func := "muniment/munimentlaw13.TxNumbers", spec := "txNumbers", unfollowed := true, recurses := true, apart := false }
def TxNumbersSaid : Prop := txNumbersRow.holds Tryz.pinned (OpenSpec.ofChange txNumbersSpec)

/-- ITS FALSE NEIGHBOUR: 'it returns false'. Refute it at one input. -/
def txNumbersWrong : ChangeSpec := { name := "txNumbers", fn := fun _ => fun
  | [d1, d2] => { results := [.lit (.bool false)], args := [d1, d2] }
  | _ => none }
def TxNumbersWrongFalsely : Prop := txNumbersRow.holds Tryz.pinned (OpenSpec.ofChange txNumbersWrong)

/-- 'munimentlaw13.TxDies': WHATEVER THE INPUT: true; the input reads as it did. -/
def txDiesSpec : ChangeSpec := { name := "txDies", fn := fun _ => fun
  | [d1, d2, d3, d4, d5, d6] => { results := [.lit (.bool true)], args := [d1, d2, d3, d4, d5, d6] }
  | _ => none }
def txDiesRow : OpenClaim := { program := "ytiojppeahfoiaaagreat", sum := "dbfed627e5995aef52cefafa40ff4551271d2267c1d3171cbfc89e7967fd122f", func := "muniment/munimentlaw13.TxDies", spec := "txDies", unfollowed := true, recurses := true, apart := false }
def TxDiesSaid : Prop := txDiesRow.holds Tryz.pinned (OpenSpec.ofChange txDiesSpec)

/-- ITS FALSE NEIGHBOUR: 'it returns false'. Refute it at one input. -/
def txDiesWrong : ChangeSpec := { name := "txDies", fn := fun _ => fun
  | [d1, d2, d3, d4, d5, d6] => { results := [.lit (.bool false)], args := [d1, d2, d3, d4, d5, d6] }
  | _ => none }
def TxDiesWrongFalsely : Prop := txDiesRow.holds Tryz.pinned (OpenSpec.ofChange txDiesWrong)

/- THE SECOND FORM. 'bulk': how many values and letters a reading holds, each counted each time it is reached (what is shared counts as often as it is met; a slice's spare places count too). A statement '..UptoSaid' is the law's where the arguments, and the package variables that the reading takes, are together of bulk at most 1048576: NARROWER than '..Said'. Prove '..Said' where nothing that the law and all that it calls make is longer than what came in: it says more and counts as full. Else prove '..UptoSaid'. A law counts once. -/
mutual
def uptoBulk {H : Type} : DataW H → Nat
  | .lit (.string bytes) => bytes.length + 1
  | .lit _ => 1
  | .nil => 1
  | .ptr d => uptoBulk d + 1
  | .slice elems spare => uptoBulkAll elems + uptoBulkAll spare + 1
  | .agg parts => uptoBulkAll parts + 1
  | .iface _ d => uptoBulk d + 1
  | .map entries => uptoBulkEntries entries + 1
  | .held _ => 1
def uptoBulkAll {H : Type} : List (DataW H) → Nat
  | [] => 0
  | d :: r => uptoBulk d + uptoBulkAll r
def uptoBulkEntries {H : Type} : List (Lit × DataW H) → Nat
  | [] => 0
  | x :: r => uptoBulkEntry x + uptoBulkEntries r
def uptoBulkEntry {H : Type} : Lit × DataW H → Nat
  | (.string bytes, d) => bytes.length + uptoBulk d + 1
  | (_, d) => uptoBulk d + 1
 end
def uptoSmall : (H : Type) → List (DataW H) → Bool := fun _ ds => decide (uptoBulkAll ds ≤ 1048576)
def OpenSpec.upto (s : _root_.Go.ChangeSpec) : _root_.Go.OpenSpec := { _root_.Go.OpenSpec.ofChange s with cond := some uptoSmall }

/-- 'munimentlaw9.AtomDies', WHERE WHAT IT READS IS OF BULK AT MOST 1048576: true; the input reads as it did. -/
def atomDiesUptoRow : OpenClaim := { program := "ytiojppeahfoiaaagreat", sum := "dbfed627e5995aef52cefafa40ff4551271d2267c1d3171cbfc89e7967fd122f", func := "muniment/munimentlaw9.AtomDies", spec := "atomDies", unfollowed := true, recurses := true, apart := false, narrowed := true }
def AtomDiesUptoSaid : Prop := atomDiesUptoRow.holds Tryz.pinned (OpenSpec.upto atomDiesSpec)

/-- 'munimentlaw13.TxOrders', WHERE WHAT IT READS IS OF BULK AT MOST 1048576: true; the input reads as it did. -/
def txOrdersUptoRow : OpenClaim := { program := "ytiojppeahfoiaaagreat", sum := "dbfed627e5995aef52cefafa40ff4551271d2267c1d3171cbfc89e7967fd122f", func := "muniment/munimentlaw13.TxOrders", spec := "txOrders", unfollowed := true, recurses := true, apart := false, narrowed := true }
def TxOrdersUptoSaid : Prop := txOrdersUptoRow.holds Tryz.pinned (OpenSpec.upto txOrdersSpec)

/-- 'munimentlaw13.TxLong', WHERE WHAT IT READS IS OF BULK AT MOST 1048576: true; the input reads as it did. -/
def txLongUptoRow : OpenClaim := { program := "ytiojppeahfoiaaagreat", sum := "dbfed627e5995aef52cefafa40ff4551271d2267c1d3171cbfc89e7967fd122f", func := "muniment/munimentlaw13.TxLong", spec := "txLong", unfollowed := true, recurses := true, apart := false, narrowed := true }
def TxLongUptoSaid : Prop := txLongUptoRow.holds Tryz.pinned (OpenSpec.upto txLongSpec)

/-- 'munimentlaw13.TxUndone', WHERE WHAT IT READS IS OF BULK AT MOST 1048576: true; the input reads as it did. -/
def txUndoneUptoRow : OpenClaim := { program := "ytiojppeahfoiaaagreat", sum := "dbfed627e5995aef52cefafa40ff4551271d2267c1d3171cbfc89e7967fd122f", func := "muniment/munimentlaw13.TxUndone", spec := "txUndone", unfollowed := true, recurses := true, apart := false, narrowed := true }
def TxUndoneUptoSaid : Prop := txUndoneUptoRow.holds Tryz.pinned (OpenSpec.upto txUndoneSpec)

/-- 'munimentlaw13.TxBare', WHERE WHAT IT READS IS OF BULK AT MOST 1048576: true; the input reads as it did. -/
def txBareUptoRow : OpenClaim := { program := "ytiojppeahfoiaaagreat", sum := "dbfed627e5995aef52cefafa40ff4551271d2267c1d3171cbfc89e7967fd122f", func := "muniment/munimentlaw13.TxBare", spec := "txBare", unfollowed := true, recurses := true, apart := false, narrowed := true }
def TxBareUptoSaid : Prop := txBareUptoRow.holds Tryz.pinned (OpenSpec.upto txBareSpec)

/-- 'munimentlaw13.TxPlays', WHERE WHAT IT READS IS OF BULK AT MOST 1048576: true; the input reads as it did. -/
def txPlaysUptoRow : OpenClaim := { program := "ytiojppeahfoiaaagreat", sum := "dbfed627e5995aef52cefafa40ff4551271d2267c1d3171cbfc89e7967fd122f", func := "muniment/munimentlaw13.TxPlays", spec := "txPlays", unfollowed := true, recurses := true, apart := false, narrowed := true }
def TxPlaysUptoSaid : Prop := txPlaysUptoRow.holds Tryz.pinned (OpenSpec.upto txPlaysSpec)

/-- 'munimentlaw13.TxNumbers', WHERE WHAT IT READS IS OF BULK AT MOST 1048576: true; the input reads as it did. -/
def txNumbersUptoRow : OpenClaim := { program := "ytiojppeahfoiaaagreat", sum := "dbfed627e5995aef52cefafa40ff4551271d2267c1d3171cbfc89e7967fd122f", func := "muniment/munimentlaw13.TxNumbers", spec := "txNumbers", unfollowed := true, recurses := true, apart := false, narrowed := true }
def TxNumbersUptoSaid : Prop := txNumbersUptoRow.holds Tryz.pinned (OpenSpec.upto txNumbersSpec)

/-- 'munimentlaw13.TxDies', WHERE WHAT IT READS IS OF BULK AT MOST 1048576: true; the input reads as it did. -/
def txDiesUptoRow : OpenClaim := { program := "ytiojppeahfoiaaagreat", sum := "dbfed627e5995aef52cefafa40ff4551271d2267c1d3171cbfc89e7967fd122f", func := "muniment/munimentlaw13.TxDies", spec := "txDies", unfollowed := true, recurses := true, apart := false, narrowed := true }
def TxDiesUptoSaid : Prop := txDiesUptoRow.holds Tryz.pinned (OpenSpec.upto txDiesSpec)

end Rows
end Go.Proofs.YtiojppeahfoiaaaGreat
