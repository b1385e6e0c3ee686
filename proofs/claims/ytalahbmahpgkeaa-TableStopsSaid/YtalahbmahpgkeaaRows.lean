/-
  No cell of these rows narrows 'for every input' (looked for: loops, veiled, ifaces, maps, wideKeys, modest, calm, conditions, laid).
  DERIVED. THE GIVEN ROWS OF THIS SEAT. 10 by the template 'for every input the law returns true; each argument reads behind the call as it read before'; 0 by the template 'total and deterministic' (their statements: YtalahbmahpgkeaaTotals.lean).
  GIVEN WITH THE SEED: the statements are not yours to turn. If you find one false, say at which input.
  Laid BY PROGRAM, IN A SANDBOX (cutbox-rows.mjs): the forced cells as the released guide's own fill.sh prints them over the translation 96519ba6e6bd3f15… (all of the seat's roots in one cut). By AI agents, Wed Nov 11 2026. No macro, syntax, notation, axiom, sorry.
-/
import Derived.Test.YtalahbmahpgkeaaChecked
import GoSem.Claim
import GoSem.ClaimJoined
import GoSem.ClaimMapViews
import Derived.JoinedTies
import Derived.KernelRfl
namespace Go.Proofs.Ytalahbmahpgkeaa
/- THE CELL 'sum', in the pinned program and in every row, IS THE sha256 OF THE DUMP (.gsa) THAT YtalahbmahpgkeaaProg.lean LOADS. Nothing in Lean hashes anything: it is a label: what it is worth is what the hold of that sum in a sandbox is worth. -/
noncomputable def Try.pinned : Pinned := { name := "ytalahbmahpgkeaa", sum := "96519ba6e6bd3f15e3fda0f5c1fc1d9eafd29470d09bdc52bc2c885efd100cda", checked := Try.checked }
namespace Rows
def none {H : Type} : Left H := { results := [], args := [] }

/-- 'swingbridgelaw10.TableMaps': WHATEVER THE INPUT: true; the input reads as it did. -/
def tableMapsSpec : ChangeSpec := { name := "tableMaps", fn := fun _ => fun
  | [d] => { results := [.lit (.bool true)], args := [d] }
  | _ => none }
def tableMapsRow : OpenClaim := { program := "ytalahbmahpgkeaa", sum := "96519ba6e6bd3f15e3fda0f5c1fc1d9eafd29470d09bdc52bc2c885efd100cda", func := "swingbridge/swingbridgelaw10.TableMaps", spec := "tableMaps", unfollowed := true, recurses := true, apart := false }
def TableMapsSaid : Prop := tableMapsRow.holds Try.pinned (OpenSpec.ofChange tableMapsSpec)

/-- ITS FALSE NEIGHBOUR: 'it returns false'. Refute it at one input. -/
def tableMapsWrong : ChangeSpec := { name := "tableMaps", fn := fun _ => fun
  | [d] => { results := [.lit (.bool false)], args := [d] }
  | _ => none }
def TableMapsWrongFalsely : Prop := tableMapsRow.holds Try.pinned (OpenSpec.ofChange tableMapsWrong)

/-- 'swingbridgelaw10.TableFull': WHATEVER THE INPUT: true; the input reads as it did. -/
def tableFullSpec : ChangeSpec := { name := "tableFull", fn := fun _ => fun
  | [d1, d2] => { results := [.lit (.bool true)], args := [d1, d2] }
  | _ => none }
def tableFullRow : OpenClaim := { program := "ytalahbmahpgkeaa", sum := "96519ba6e6bd3f15e3fda0f5c1fc1d9eafd29470d09bdc52bc2c885efd100cda", func := "swingbridge/swingbridgelaw10.TableFull", spec := "tableFull", unfollowed := true, recurses := true, apart := false }
def TableFullSaid : Prop := tableFullRow.holds Try.pinned (OpenSpec.ofChange tableFullSpec)

/-- ITS FALSE NEIGHBOUR: 'it returns false'. Refute it at one input. -/
def tableFullWrong : ChangeSpec := { name := "tableFull", fn := fun _ => fun
  | [d1, d2] => { results := [.lit (.bool false)], args := [d1, d2] }
  | _ => none }
def TableFullWrongFalsely : Prop := tableFullRow.holds Try.pinned (OpenSpec.ofChange tableFullWrong)

/-- 'swingbridgelaw10.TableLengths': WHATEVER THE INPUT: true; the input reads as it did. -/
def tableLengthsSpec : ChangeSpec := { name := "tableLengths", fn := fun _ => fun
  | [d1, d2, d3, d4, d5, d6] => { results := [.lit (.bool true)], args := [d1, d2, d3, d4, d5, d6] }
  | _ => none }
def tableLengthsRow : OpenClaim := { program := "ytalahbmahpgkeaa", sum := "96519ba6e6bd3f15e3fda0f5c1fc1d9eafd29470d09bdc52bc2c885efd100cda", func := "swingbridge/swingbridgelaw10.TableLengths", spec := "tableLengths", unfollowed := true, recurses := true, apart := false }
def TableLengthsSaid : Prop := tableLengthsRow.holds Try.pinned (OpenSpec.ofChange tableLengthsSpec)

/-- ITS FALSE NEIGHBOUR: 'it returns false'. Refute it at one input. -/
def tableLengthsWrong : ChangeSpec := { name := "tableLengths", fn := fun _ => fun
  | [d1, d2, d3, d4, d5, d6] => { results := [.lit (.bool false)], args := [d1, d2, d3, d4, d5, d6] }
  | _ => none }
def TableLengthsWrongFalsely : Prop := tableLengthsRow.holds Try.pinned (OpenSpec.ofChange tableLengthsWrong)

/-- 'swingbridgelaw10.TableInto': WHATEVER THE INPUT: true; the input reads as it did. -/
def tableIntoSpec : ChangeSpec := { name := "tableInto", fn := fun _ => fun
  | [d1, d2, d3, d4, d5, d6] => { results := [.lit (.bool true)], args := [d1, d2, d3, d4, d5, d6] }
  | _ => none }
def tableIntoRow : OpenClaim := { program := "ytalahbmahpgkeaa", sum := "96519ba6e6bd3f15e3fda0f5c1fc1d9eafd29470d09bdc52bc2c885efd100cda", func := "swingbridge/swingbridgelaw10.TableInto", spec := "tableInto", unfollowed := true, recurses := true, apart := false }
def TableIntoSaid : Prop := tableIntoRow.holds Try.pinned (OpenSpec.ofChange tableIntoSpec)

/-- ITS FALSE NEIGHBOUR: 'it returns false'. Refute it at one input. -/
def tableIntoWrong : ChangeSpec := { name := "tableInto", fn := fun _ => fun
  | [d1, d2, d3, d4, d5, d6] => { results := [.lit (.bool false)], args := [d1, d2, d3, d4, d5, d6] }
  | _ => none }
def TableIntoWrongFalsely : Prop := tableIntoRow.holds Try.pinned (OpenSpec.ofChange tableIntoWrong)

/-- 'swingbridgelaw10.TableOrder': WHATEVER THE INPUT: true; the input reads as it did. -/
def tableOrderSpec : ChangeSpec := { name := "tableOrder", fn := fun _ => fun
  | [d1, d2] => { results := [.lit (.bool true)], args := [d1, d2] }
  | _ => none }
def tableOrderRow : OpenClaim := { program := "ytalahbmahpgkeaa", sum := "96519ba6e6bd3f15e3fda0f5c1fc1d9eafd29470d09bdc52bc2c885efd100cda", func := "swingbridge/swingbridgelaw10.TableOrder", spec := "tableOrder", unfollowed := true, recurses := true, apart := false }
def TableOrderSaid : Prop := tableOrderRow.holds Try.pinned (OpenSpec.ofChange tableOrderSpec)

/-- ITS FALSE NEIGHBOUR: 'it returns false'. Refute it at one input. -/
def tableOrderWrong : ChangeSpec := { name := "tableOrder", fn := fun _ => fun
  | [d1, d2] => { results := [.lit (.bool false)], args := [d1, d2] }
  | _ => none }
def TableOrderWrongFalsely : Prop := tableOrderRow.holds Try.pinned (OpenSpec.ofChange tableOrderWrong)

/-- 'swingbridgelaw10.TableStops': WHATEVER THE INPUT: true; the input reads as it did. -/
def tableStopsSpec : ChangeSpec := { name := "tableStops", fn := fun _ => fun
  | [d1, d2, d3, d4, d5, d6] => { results := [.lit (.bool true)], args := [d1, d2, d3, d4, d5, d6] }
  | _ => none }
def tableStopsRow : OpenClaim := { program := "ytalahbmahpgkeaa", sum := "96519ba6e6bd3f15e3fda0f5c1fc1d9eafd29470d09bdc52bc2c885efd100cda", func := "swingbridge/swingbridgelaw10.TableStops", spec := "tableStops", unfollowed := true, recurses := true, apart := false }
def TableStopsSaid : Prop := tableStopsRow.holds Try.pinned (OpenSpec.ofChange tableStopsSpec)

/-- ITS FALSE NEIGHBOUR: 'it returns false'. Refute it at one input. -/
def tableStopsWrong : ChangeSpec := { name := "tableStops", fn := fun _ => fun
  | [d1, d2, d3, d4, d5, d6] => { results := [.lit (.bool false)], args := [d1, d2, d3, d4, d5, d6] }
  | _ => none }
def TableStopsWrongFalsely : Prop := tableStopsRow.holds Try.pinned (OpenSpec.ofChange tableStopsWrong)

/-- 'swingbridgelaw10.TablePlays': WHATEVER THE INPUT: true; the input reads as it did. -/
def tablePlaysSpec : ChangeSpec := { name := "tablePlays", fn := fun _ => fun
  | [d1, d2, d3, d4, d5] => { results := [.lit (.bool true)], args := [d1, d2, d3, d4, d5] }
  | _ => none }
def tablePlaysRow : OpenClaim := { program := "ytalahbmahpgkeaa", sum := "96519ba6e6bd3f15e3fda0f5c1fc1d9eafd29470d09bdc52bc2c885efd100cda", func := "swingbridge/swingbridgelaw10.TablePlays", spec := "tablePlays", unfollowed := true, recurses := true, apart := false }
def TablePlaysSaid : Prop := tablePlaysRow.holds Try.pinned (OpenSpec.ofChange tablePlaysSpec)

/-- ITS FALSE NEIGHBOUR: 'it returns false'. Refute it at one input. -/
def tablePlaysWrong : ChangeSpec := { name := "tablePlays", fn := fun _ => fun
  | [d1, d2, d3, d4, d5] => { results := [.lit (.bool false)], args := [d1, d2, d3, d4, d5] }
  | _ => none }
def TablePlaysWrongFalsely : Prop := tablePlaysRow.holds Try.pinned (OpenSpec.ofChange tablePlaysWrong)

/-- 'swingbridgelaw10.TableArray': WHATEVER THE INPUT: true; the input reads as it did. -/
def tableArraySpec : ChangeSpec := { name := "tableArray", fn := fun _ => fun
  | [d1, d2, d3, d4] => { results := [.lit (.bool true)], args := [d1, d2, d3, d4] }
  | _ => none }
def tableArrayRow : OpenClaim := { program := "ytalahbmahpgkeaa", sum := "96519ba6e6bd3f15e3fda0f5c1fc1d9eafd29470d09bdc52bc2c885efd100cda", func := "swingbridge/swingbridgelaw10.TableArray", spec := "tableArray", unfollowed := true, recurses := true, apart := false }
def TableArraySaid : Prop := tableArrayRow.holds Try.pinned (OpenSpec.ofChange tableArraySpec)

/-- ITS FALSE NEIGHBOUR: 'it returns false'. Refute it at one input. -/
def tableArrayWrong : ChangeSpec := { name := "tableArray", fn := fun _ => fun
  | [d1, d2, d3, d4] => { results := [.lit (.bool false)], args := [d1, d2, d3, d4] }
  | _ => none }
def TableArrayWrongFalsely : Prop := tableArrayRow.holds Try.pinned (OpenSpec.ofChange tableArrayWrong)

/-- 'swingbridgelaw10.TableKinds': WHATEVER THE INPUT: true; the input reads as it did. -/
def tableKindsSpec : ChangeSpec := { name := "tableKinds", fn := fun _ => fun
  | [d1, d2, d3] => { results := [.lit (.bool true)], args := [d1, d2, d3] }
  | _ => none }
def tableKindsRow : OpenClaim := { program := "ytalahbmahpgkeaa", sum := "96519ba6e6bd3f15e3fda0f5c1fc1d9eafd29470d09bdc52bc2c885efd100cda", func := "swingbridge/swingbridgelaw10.TableKinds", spec := "tableKinds", unfollowed := true, recurses := true, apart := false }
def TableKindsSaid : Prop := tableKindsRow.holds Try.pinned (OpenSpec.ofChange tableKindsSpec)

/-- ITS FALSE NEIGHBOUR: 'it returns false'. Refute it at one input. -/
def tableKindsWrong : ChangeSpec := { name := "tableKinds", fn := fun _ => fun
  | [d1, d2, d3] => { results := [.lit (.bool false)], args := [d1, d2, d3] }
  | _ => none }
def TableKindsWrongFalsely : Prop := tableKindsRow.holds Try.pinned (OpenSpec.ofChange tableKindsWrong)

/-- 'swingbridgelaw10.TableGone': WHATEVER THE INPUT: true; the input reads as it did. -/
def tableGoneSpec : ChangeSpec := { name := "tableGone", fn := fun _ => fun
  | [d1, d2, d3, d4, d5] => { results := [.lit (.bool true)], args := [d1, d2, d3, d4, d5] }
  | _ => none }
def tableGoneRow : OpenClaim := { program := "ytalahbmahpgkeaa", sum := "96519ba6e6bd3f15e3fda0f5c1fc1d9eafd29470d09bdc52bc2c885efd100cda", func := "swingbridge/swingbridgelaw10.TableGone", spec := "tableGone", unfollowed := true, recurses := true, apart := false }
def TableGoneSaid : Prop := tableGoneRow.holds Try.pinned (OpenSpec.ofChange tableGoneSpec)

/-- ITS FALSE NEIGHBOUR: 'it returns false'. Refute it at one input. -/
def tableGoneWrong : ChangeSpec := { name := "tableGone", fn := fun _ => fun
  | [d1, d2, d3, d4, d5] => { results := [.lit (.bool false)], args := [d1, d2, d3, d4, d5] }
  | _ => none }
def TableGoneWrongFalsely : Prop := tableGoneRow.holds Try.pinned (OpenSpec.ofChange tableGoneWrong)

/- THE SECOND FORM. 'bulk': how many values and letters a reading holds, each counted each time it is reached (what is shared counts as often as it is met; a slice's spare places count too). A statement '..UptoSaid' is the law's where the arguments, and the package variables that the reading takes, are together of bulk at most 1048576: NARROWER than '..Said'. Prove '..Said' where nothing that the law and all that it calls make is longer than what came in: it says more and counts as full. Else prove '..UptoSaid'. A law counts once. -/
mutual
def uptoBulk {H : Type} : DataW H → Nat
  | .lit (.string bytes) => bytes.length + 1
  | .lit _ => 1
  | .nil => 1
  | .ptr d => uptoBulk d + 1
  | .slice elems spare => uptoBulkAll elems + uptoBulkAll spare + 1
  | .agg parts => uptoBulkAll parts + 1
  | .iface _ d => uptoBulk d + 1
  | .map entries => uptoBulkEntries entries + 1
  | .held _ => 1
def uptoBulkAll {H : Type} : List (DataW H) → Nat
  | [] => 0
  | d :: r => uptoBulk d + uptoBulkAll r
def uptoBulkEntries {H : Type} : List (Lit × DataW H) → Nat
  | [] => 0
  | x :: r => uptoBulkEntry x + uptoBulkEntries r
def uptoBulkEntry {H : Type} : Lit × DataW H → Nat
  | (.string bytes, d) => bytes.length + uptoBulk d + 1
  | (_, d) => uptoBulk d + 1
 end
def uptoSmall : (H : Type) → List (DataW H) → Bool := fun _ ds => decide (uptoBulkAll ds ≤ 1048576)
def OpenSpec.upto (s : _root_.Go.ChangeSpec) : _root_.Go.OpenSpec := { _root_.Go.OpenSpec.ofChange s with cond := some uptoSmall }

/-- 'swingbridgelaw10.TableMaps', WHERE WHAT IT READS IS OF BULK AT MOST 1048576: true; the input reads as it did. -/
def tableMapsUptoRow : OpenClaim := { program := "ytalahbmahpgkeaa", sum := "96519ba6e6bd3f15e3fda0f5c1fc1d9eafd29470d09bdc52bc2c885efd100cda", func := "swingbridge/swingbridgelaw10.TableMaps", spec := "tableMaps", unfollowed := true, recurses := true, apart := false, narrowed := true }
def TableMapsUptoSaid : Prop := tableMapsUptoRow.holds Try.pinned (OpenSpec.upto tableMapsSpec)

/-- 'swingbridgelaw10.TableFull', WHERE WHAT IT READS IS OF BULK AT MOST 1048576: true; the input reads as it did. -/
def tableFullUptoRow : OpenClaim := { program := "ytalahbmahpgkeaa", sum := "96519ba6e6bd3f15e3fda0f5c1fc1d9eafd29470d09bdc52bc2c885efd100cda", func := "swingbridge/swingbridgelaw10.TableFull", spec := "tableFull", unfollowed := true, recurses := true, apart := false, narrowed := true }
def TableFullUptoSaid : Prop := tableFullUptoRow.holds Try.pinned (OpenSpec.upto tableFullSpec)

/-- 'swingbridgelaw10.TableLengths', WHERE WHAT IT READS IS OF BULK AT MOST 1048576: true; the input reads as it did. -/
def tableLengthsUptoRow : OpenClaim := { program := "ytalahbmahpgkeaa", sum := "96519ba6e6bd3f15e3fda0f5c1fc1d9eafd29470d09bdc52bc2c885efd100cda", func := "swingbridge/swingbridgelaw10.TableLengths", spec := "tableLengths", unfollowed := true, recurses := true, apart := false, narrowed := true }
def TableLengthsUptoSaid : Prop := tableLengthsUptoRow.holds Try.pinned (OpenSpec.upto tableLengthsSpec)

/-- 'swingbridgelaw10.TableInto', WHERE WHAT IT READS IS OF BULK AT MOST 1048576: true; the input reads as it did. -/
def tableIntoUptoRow : OpenClaim := { program := "ytalahbmahpgkeaa", sum := "96519ba6e6bd3f15e3fda0f5c1fc1d9eafd29470d09bdc52bc2c885efd100cda", func := "swingbridge/swingbridgelaw10.TableInto", spec := "tableInto", unfollowed := true, recurses := true, apart := false, narrowed := true }
def TableIntoUptoSaid : Prop := tableIntoUptoRow.holds Try.pinned (OpenSpec.upto tableIntoSpec)

/-- 'swingbridgelaw10.TableOrder', WHERE WHAT IT READS IS OF BULK AT MOST 1048576: true; the input reads as it did. -/
def tableOrderUptoRow : OpenClaim := { program := "ytalahbmahpgkeaa", sum := "96519ba6e6bd3f15e3fda0f5c1fc1d9eafd29470d09bdc52bc2c885efd100cda", func := "swingbridge/swingbridgelaw10.TableOrder", spec := "tableOrder", unfollowed := true, recurses := true, apart := false, narrowed := true }
def TableOrderUptoSaid : Prop := tableOrderUptoRow.holds Try.pinned (OpenSpec.upto tableOrderSpec)

/-- 'swingbridgelaw10.TableStops', WHERE WHAT IT READS IS OF BULK AT MOST 1048576: true; the input reads as it did. -/
def tableStopsUptoRow : OpenClaim := { program := "ytalahbmahpgkeaa", sum := "96519ba6e6bd3f15e3fda0f5c1fc1d9eafd29470d09bdc52bc2c885efd100cda", func := "swingbridge/swingbridgelaw10.TableStops", spec := "tableStops", unfollowed := true, recurses := true, apart := false, narrowed := true }
def TableStopsUptoSaid : Prop := tableStopsUptoRow.holds Try.pinned (OpenSpec.upto tableStopsSpec)

/-- 'swingbridgelaw10.TablePlays', WHERE WHAT IT READS IS OF BULK AT MOST 1048576: true; the input reads as it did. -/
def tablePlaysUptoRow : OpenClaim := { program := "ytalahbmahpgkeaa", sum := "96519ba6e6bd3f15e3fda0f5c1fc1d9eafd29470d09bdc52bc2c885efd100cda", func := "swingbridge/swingbridgelaw10.TablePlays", spec := "tablePlays", unfollowed := true, recurses := true, apart := false, narrowed := true }
def TablePlaysUptoSaid : Prop := tablePlaysUptoRow.holds Try.pinned (OpenSpec.upto tablePlaysSpec)

/-- 'swingbridgelaw10.TableArray', WHERE WHAT IT READS IS OF BULK AT MOST 1048576: true; the input reads as it did. -/
def tableArrayUptoRow : OpenClaim := { program := "ytalahbmahpgkeaa", sum := "96519ba6e6bd3f15e3fda0f5c1fc1d9eafd29470d09bdc52bc2c885efd100cda", func := "swingbridge/swingbridgelaw10.TableArray", spec := "tableArray", unfollowed := true, recurses := true, apart := false, narrowed := true }
def TableArrayUptoSaid : Prop := tableArrayUptoRow.holds Try.pinned (OpenSpec.upto tableArraySpec)

/-- 'swingbridgelaw10.TableKinds', WHERE WHAT IT READS IS OF BULK AT MOST 1048576: true; the input reads as it did. -/
def tableKindsUptoRow : OpenClaim := { program := "ytalahbmahpgkeaa", sum := "96519ba6e6bd3f15e3fda0f5c1fc1d9eafd29470d09bdc52bc2c885efd100cda", func := "swingbridge/swingbridgelaw10.TableKinds", spec := "tableKinds", unfollowed := true, recurses := true, apart := false, narrowed := true }
def TableKindsUptoSaid : Prop := tableKindsUptoRow.holds Try.pinned (OpenSpec.upto tableKindsSpec)

/-- 'swingbridgelaw10.TableGone', WHERE WHAT IT READS IS OF BULK AT MOST 1048576: true; the input reads as it did. -/
def tableGoneUptoRow : OpenClaim := { program := "ytalahbmahpgkeaa", sum := "96519ba6e6bd3f15e3fda0f5c1fc1d9eafd29470d09bdc52bc2c885efd100cda", func := "swingbridge/swingbridgelaw10.TableGone", spec := "tableGone", unfollowed := true, recurses := true, apart := false, narrowed := true }
def TableGoneUptoSaid : Prop := tableGoneUptoRow.holds Try.pinned (OpenSpec.upto tableGoneSpec)

end Rows
end Go.Proofs.Ytalahbmahpgkeaa
