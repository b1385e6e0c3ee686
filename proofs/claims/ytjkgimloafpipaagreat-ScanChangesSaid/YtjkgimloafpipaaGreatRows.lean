/-
  No cell of these rows narrows 'for every input' (looked for: loops, veiled, ifaces, maps, wideKeys, modest, calm, conditions, laid).
  DERIVED. THE GIVEN ROWS OF THIS SEAT. 9 by the template 'for every input the law returns true; each argument reads behind the call as it read before'; 0 by the template 'total and deterministic' (their statements: YtjkgimloafpipaaGreatTotals.lean).
  GIVEN WITH THE SEED: the statements are not yours to turn. If you find one false, say at which input.
  Laid BY PROGRAM, IN A SANDBOX (cutbox-rows.mjs): the forced cells as the released guide's own fill.sh prints them over the translation db60baf17da2ef9f… (all of the seat's roots in one cut). By AI agents, Wed Nov 11 2026. No macro, syntax, notation, axiom, sorry.
-/
import Derived.Test.YtjkgimloafpipaaGreatChecked
import GoSem.Claim
import GoSem.ClaimJoined
import GoSem.ClaimMapViews
import Derived.JoinedTies
import Derived.KernelRfl
namespace Go.Proofs.YtjkgimloafpipaaGreat
/- THE CELL 'sum', in the pinned program and in every row, IS THE sha256 OF THE DUMP (.gsa) THAT YtjkgimloafpipaaGreatProg.lean LOADS. Nothing in Lean hashes anything: it is a label: what it is worth is what the hold of that sum in a sandbox is worth. -/
noncomputable def Tryz.pinned : Pinned := { name := "ytjkgimloafpipaagreat", sum := "db60baf17da2ef9fb268bc7b89145cd56e1a39c09f76395c76cbc8c1d4ddca0e", checked := Tryz.checked }
namespace Rows
def none {H : Type} : Left H := { results := [], args := [] }

/-- 'swingbridgelaw11.ScanRestores': WHATEVER THE INPUT: true; the input reads as it did. -/
def scanRestoresSpec : ChangeSpec := { name := "scanRestores", fn := fun _ => fun
  | [d1, d2, d3, d4, d5, d6, d7, d8, d9] => { results := [.lit (.bool true)], args := [d1, d2, d3, d4, d5, d6, d7, d8, d9] }
  | _ => none }
def scanRestoresRow : OpenClaim := { program := "ytjkgimloafpipaagreat", sum := "db60baf17da2ef9fb268bc7b89145cd56e1a39c09f76395c76cbc8c1d4ddca0e", func := "swingbridge/swingbridgelaw11.ScanRestores", spec := "scanRestores", inPlace := ["internal/bytealg.abigen_runtime_cmpstring"], unfollowed := true, recurses := true, apart := false }
def ScanRestoresSaid : Prop := scanRestoresRow.holds Tryz.pinned (OpenSpec.ofChange scanRestoresSpec)

/-- ITS FALSE NEIGHBOUR: 'it returns false'. Refute it at one input. -/
def scanRestoresWrong : ChangeSpec := { name := "scanRestores", fn := fun _ => fun
  | [d1, d2, d3, d4, d5, d6, d7, d8, d9] => { results := [.lit (.bool false)], args := [d1, d2, d3, d4, d5, d6, d7, d8, d9] }
  | _ => none }
def ScanRestoresWrongFalsely : Prop := scanRestoresRow.holds Tryz.pinned (OpenSpec.ofChange scanRestoresWrong)

/-- 'swingbridgelaw11.ScanUnlike': WHATEVER THE INPUT: true; the input reads as it did. -/
def scanUnlikeSpec : ChangeSpec := { name := "scanUnlike", fn := fun _ => fun
  | [d1, d2, d3, d4, d5, d6] => { results := [.lit (.bool true)], args := [d1, d2, d3, d4, d5, d6] }
  | _ => none }
def scanUnlikeRow : OpenClaim := { program := "ytjkgimloafpipaagreat", sum := "db60baf17da2ef9fb268bc7b89145cd56e1a39c09f76395c76cbc8c1d4ddca0e", func := "swingbridge/swingbridgelaw11.ScanUnlike", spec := "scanUnlike", inPlace := ["internal/bytealg.abigen_runtime_cmpstring"], unfollowed := true, recurses := true, apart := false }
def ScanUnlikeSaid : Prop := scanUnlikeRow.holds Tryz.pinned (OpenSpec.ofChange scanUnlikeSpec)

/-- ITS FALSE NEIGHBOUR: 'it returns false'. Refute it at one input. -/
def scanUnlikeWrong : ChangeSpec := { name := "scanUnlike", fn := fun _ => fun
  | [d1, d2, d3, d4, d5, d6] => { results := [.lit (.bool false)], args := [d1, d2, d3, d4, d5, d6] }
  | _ => none }
def ScanUnlikeWrongFalsely : Prop := scanUnlikeRow.holds Tryz.pinned (OpenSpec.ofChange scanUnlikeWrong)

/-- 'swingbridgelaw11.ScanSizes': WHATEVER THE INPUT: true; the input reads as it did. -/
def scanSizesSpec : ChangeSpec := { name := "scanSizes", fn := fun _ => fun
  | [d1, d2, d3, d4, d5, d6, d7, d8, d9] => { results := [.lit (.bool true)], args := [d1, d2, d3, d4, d5, d6, d7, d8, d9] }
  | _ => none }
def scanSizesRow : OpenClaim := { program := "ytjkgimloafpipaagreat", sum := "db60baf17da2ef9fb268bc7b89145cd56e1a39c09f76395c76cbc8c1d4ddca0e", func := "swingbridge/swingbridgelaw11.ScanSizes", spec := "scanSizes", inPlace := ["internal/bytealg.abigen_runtime_cmpstring"], unfollowed := true, recurses := true, apart := false }
def ScanSizesSaid : Prop := scanSizesRow.holds Tryz.pinned (OpenSpec.ofChange scanSizesSpec)

/-- ITS FALSE NEIGHBOUR: 'it returns false'. Refute it at one input. -/
def scanSizesWrong : ChangeSpec := { name := "scanSizes", fn := fun _ => fun
  | [d1, d2, d3, d4, d5, d6, d7, d8, d9] => { results := [.lit (.bool false)], args := [d1, d2, d3, d4, d5, d6, d7, d8, d9] }
  | _ => none }
def ScanSizesWrongFalsely : Prop := scanSizesRow.holds Tryz.pinned (OpenSpec.ofChange scanSizesWrong)

/-- 'swingbridgelaw11.ScanGrows': WHATEVER THE INPUT: true; the input reads as it did. -/
def scanGrowsSpec : ChangeSpec := { name := "scanGrows", fn := fun _ => fun
  | [d1, d2, d3, d4, d5, d6] => { results := [.lit (.bool true)], args := [d1, d2, d3, d4, d5, d6] }
  | _ => none }
def scanGrowsRow : OpenClaim := { program := "ytjkgimloafpipaagreat", sum := "db60baf17da2ef9fb268bc7b89145cd56e1a39c09f76395c76cbc8c1d4ddca0e", func := "swingbridge/swingbridgelaw11.ScanGrows", spec := "scanGrows", inPlace := ["internal/bytealg.abigen_runtime_cmpstring"], unfollowed := true, recurses := true, apart := false }
def ScanGrowsSaid : Prop := scanGrowsRow.holds Tryz.pinned (OpenSpec.ofChange scanGrowsSpec)

/-- ITS FALSE NEIGHBOUR: 'it returns false'. Refute it at one input. -/
def scanGrowsWrong : ChangeSpec := { name := "scanGrows", fn := fun _ => fun
  | [d1, d2, d3, d4, d5, d6] => { results := [.lit (.bool false)], args := [d1, d2, d3, d4, d5, d6] }
  | _ => none }
def ScanGrowsWrongFalsely : Prop := scanGrowsRow.holds Tryz.pinned (OpenSpec.ofChange scanGrowsWrong)

/-- 'swingbridgelaw11.ScanBatches': WHATEVER THE INPUT: true; the input reads as it did. -/
def scanBatchesSpec : ChangeSpec := { name := "scanBatches", fn := fun _ => fun
  | [d1, d2, d3, d4, d5, d6] => { results := [.lit (.bool true)], args := [d1, d2, d3, d4, d5, d6] }
  | _ => none }
def scanBatchesRow : OpenClaim := { program := "ytjkgimloafpipaagreat", sum := "db60baf17da2ef9fb268bc7b89145cd56e1a39c09f76395c76cbc8c1d4ddca0e", func := "swingbridge/swingbridgelaw11.ScanBatches", spec := "scanBatches", inPlace := ["internal/bytealg.abigen_runtime_cmpstring"], unfollowed := true, recurses := true, apart := false }
def ScanBatchesSaid : Prop := scanBatchesRow.holds Tryz.pinned (OpenSpec.ofChange scanBatchesSpec)

/-- ITS FALSE NEIGHBOUR: 'it returns false'. Refute it at one input. -/
def scanBatchesWrong : ChangeSpec := { name := "scanBatches", fn := fun _ => fun
  | [d1, d2, d3, d4, d5, d6] => { results := [.lit (.bool false)], args := [d1, d2, d3, d4, d5, d6] }
  | _ => none }
def ScanBatchesWrongFalsely : Prop := scanBatchesRow.holds Tryz.pinned (OpenSpec.ofChange scanBatchesWrong)

/-- 'swingbridgelaw11.ScanBack': WHATEVER THE INPUT: true; the input reads as it did. -/
def scanBackSpec : ChangeSpec := { name := "scanBack", fn := fun _ => fun
  | [d1, d2, d3, d4, d5] => { results := [.lit (.bool true)], args := [d1, d2, d3, d4, d5] }
  | _ => none }
def scanBackRow : OpenClaim := { program := "ytjkgimloafpipaagreat", sum := "db60baf17da2ef9fb268bc7b89145cd56e1a39c09f76395c76cbc8c1d4ddca0e", func := "swingbridge/swingbridgelaw11.ScanBack", spec := "scanBack", inPlace := ["internal/bytealg.abigen_runtime_cmpstring"], unfollowed := true, recurses := true, apart := false }
def ScanBackSaid : Prop := scanBackRow.holds Tryz.pinned (OpenSpec.ofChange scanBackSpec)

/-- ITS FALSE NEIGHBOUR: 'it returns false'. Refute it at one input. -/
def scanBackWrong : ChangeSpec := { name := "scanBack", fn := fun _ => fun
  | [d1, d2, d3, d4, d5] => { results := [.lit (.bool false)], args := [d1, d2, d3, d4, d5] }
  | _ => none }
def ScanBackWrongFalsely : Prop := scanBackRow.holds Tryz.pinned (OpenSpec.ofChange scanBackWrong)

/-- 'swingbridgelaw11.ScanTells': WHATEVER THE INPUT: true; the input reads as it did. -/
def scanTellsSpec : ChangeSpec := { name := "scanTells", fn := fun _ => fun
  | [d1, d2, d3, d4, d5, d6, d7, d8] => { results := [.lit (.bool true)], args := [d1, d2, d3, d4, d5, d6, d7, d8] }
  | _ => none }
def scanTellsRow : OpenClaim := { program := "ytjkgimloafpipaagreat", sum := "db60baf17da2ef9fb268bc7b89145cd56e1a39c09f76395c76cbc8c1d4ddca0e", func := "swingbridge/swingbridgelaw11.ScanTells", spec := "scanTells", inPlace := ["internal/bytealg.abigen_runtime_cmpstring"], unfollowed := true, recurses := true, apart := false }
def ScanTellsSaid : Prop := scanTellsRow.holds Tryz.pinned (OpenSpec.ofChange scanTellsSpec)

/-- ITS FALSE NEIGHBOUR: 'it returns false'. Refute it at one input. -/
def scanTellsWrong : ChangeSpec := { name := "scanTells", fn := fun _ => fun
  | [d1, d2, d3, d4, d5, d6, d7, d8] => { results := [.lit (.bool false)], args := [d1, d2, d3, d4, d5, d6, d7, d8] }
  | _ => none }
def ScanTellsWrongFalsely : Prop := scanTellsRow.holds Tryz.pinned (OpenSpec.ofChange scanTellsWrong)

/-- 'swingbridgelaw11.ScanStops': WHATEVER THE INPUT: true; the input reads as it did. -/
def scanStopsSpec : ChangeSpec := { name := "scanStops", fn := fun _ => fun
  | [d1, d2, d3, d4, d5, d6] => { results := [.lit (.bool true)], args := [d1, d2, d3, d4, d5, d6] }
  | _ => none }
def scanStopsRow : OpenClaim := { program := "ytjkgimloafpipaagreat", sum := "db60baf17da2ef9fb268bc7b89145cd56e1a39c09f76395c76cbc8c1d4ddca0e", func := "swingbridge/swingbridgelaw11.ScanStops", spec := "scanStops", inPlace := ["internal/bytealg.abigen_runtime_cmpstring"], unfollowed := true, recurses := true, apart := false }
def ScanStopsSaid : Prop := scanStopsRow.holds Tryz.pinned (OpenSpec.ofChange scanStopsSpec)

/-- ITS FALSE NEIGHBOUR: 'it returns false'. Refute it at one input. -/
def scanStopsWrong : ChangeSpec := { name := "scanStops", fn := fun _ => fun
  | [d1, d2, d3, d4, d5, d6] => { results := [.lit (.bool false)], args := [d1, d2, d3, d4, d5, d6] }
  | _ => none }
def ScanStopsWrongFalsely : Prop := scanStopsRow.holds Tryz.pinned (OpenSpec.ofChange scanStopsWrong)

/-- 'swingbridgelaw11.ScanChanges': WHATEVER THE INPUT: true; the input reads as it did. -/
def scanChangesSpec : ChangeSpec := { name := "scanChanges", fn := fun _ => fun
  | [d1, d2, d3, d4, d5] => { results := [.lit (.bool true)], args := [d1, d2, d3, d4, d5] }
  | _ => none }
def scanChangesRow : OpenClaim := { program := "ytjkgimloafpipaagreat", sum := "db60baf17da2ef9fb268bc7b89145cd56e1a39c09f76395c76cbc8c1d4ddca0e", func := "swingbridge/swingbridgelaw11.ScanChanges", spec := "scanChanges", inPlace := ["internal/bytealg.abigen_runtime_cmpstring"], unfollowed := true, recurses := true, apart := false }
def ScanChangesSaid : Prop := scanChangesRow.holds Tryz.pinned (OpenSpec.ofChange scanChangesSpec)

/-- ITS FALSE NEIGHBOUR: 'it returns false'. Refute it at one input. -/
def scanChangesWrong : ChangeSpec := { name := "scanChanges", fn := fun _ => fun
  | [d1, d2, d3, d4, d5] => { results := [.lit (.bool false)], args := [d1, d2, d3, d4, d5] }
  | _ => none }
def ScanChangesWrongFalsely : Prop := scanChangesRow.holds Tryz.pinned (OpenSpec.ofChange scanChangesWrong)

/- THE SECOND FORM. 'bulk': how many values and letters a reading holds, each counted each time it is reached (what is shared counts as often as it is met; a slice's spare places count too). A statement '..UptoSaid' is the law's where the arguments, and the package variables that the reading takes, are together of bulk at most 1048576: NARROWER than '..Said'. Prove '..Said' where nothing that the law and all that it calls make is longer than what came in: it says more and counts as full. Else prove '..UptoSaid'. A law counts once. -/
mutual
def uptoBulk {H : Type} : DataW H → Nat
  | .lit (.string bytes) => bytes.length + 1
  | .lit _ => 1
  | .nil => 1
  | .ptr d => uptoBulk d + 1
  | .slice elems spare => uptoBulkAll elems + uptoBulkAll spare + 1
  | .agg parts => uptoBulkAll parts + 1
  | .iface _ d => uptoBulk d + 1
  | .map entries => uptoBulkEntries entries + 1
  | .held _ => 1
def uptoBulkAll {H : Type} : List (DataW H) → Nat
  | [] => 0
  | d :: r => uptoBulk d + uptoBulkAll r
def uptoBulkEntries {H : Type} : List (Lit × DataW H) → Nat
  | [] => 0
  | x :: r => uptoBulkEntry x + uptoBulkEntries r
def uptoBulkEntry {H : Type} : Lit × DataW H → Nat
  | (.string bytes, d) => bytes.length + uptoBulk d + 1
  | (_, d) => uptoBulk d + 1
 end
def uptoSmall : (H : Type) → List (DataW H) → Bool := fun _ ds => decide (uptoBulkAll ds ≤ 1048576)
def OpenSpec.upto (s : _root_.Go.ChangeSpec) : _root_.Go.OpenSpec := { _root_.Go.OpenSpec.ofChange s with cond := some uptoSmall }

/-- 'swingbridgelaw11.ScanRestores', WHERE WHAT IT READS IS OF BULK AT MOST 1048576: true; the input reads as it did. -/
def scanRestoresUptoRow : OpenClaim := { program := "ytjkgimloafpipaagreat", sum := "db60baf17da2ef9fb268bc7b89145cd56e1a39c09f76395c76cbc8c1d4ddca0e", func := "swingbridge/swingbridgelaw11.ScanRestores", spec := "scanRestores", inPlace := ["internal/bytealg.abigen_runtime_cmpstring"], unfollowed := true, recurses := true, apart := false, narrowed := true }
def ScanRestoresUptoSaid : Prop := scanRestoresUptoRow.holds Tryz.pinned (OpenSpec.upto scanRestoresSpec)

/-- 'swingbridgelaw11.ScanUnlike', WHERE WHAT IT READS IS OF BULK AT MOST 1048576: true; the input reads as it did. -/
def scanUnlikeUptoRow : OpenClaim := { program := "ytjkgimloafpipaagreat", sum := "db60baf17da2ef9fb268bc7b89145cd56e1a39c09f76395c76cbc8c1d4ddca0e", func := "swingbridge/swingbridgelaw11.ScanUnlike", spec := "scanUnlike", inPlace := ["internal/bytealg.abigen_runtime_cmpstring"], unfollowed := true, recurses := true, apart := false, narrowed := true }
def ScanUnlikeUptoSaid : Prop := scanUnlikeUptoRow.holds Tryz.pinned (OpenSpec.upto scanUnlikeSpec)

/-- 'swingbridgelaw11.ScanSizes', WHERE WHAT IT READS IS OF BULK AT MOST 1048576: true; the input reads as it did. -/
def scanSizesUptoRow : OpenClaim := { program := "ytjkgimloafpipaagreat", sum := "db60baf17da2ef9fb268bc7b89145cd56e1a39c09f76395c76cbc8c1d4ddca0e", func := "swingbridge/swingbridgelaw11.ScanSizes", spec := "scanSizes", inPlace := ["internal/bytealg.abigen_runtime_cmpstring"], unfollowed := true, recurses := true, apart := false, narrowed := true }
def ScanSizesUptoSaid : Prop := scanSizesUptoRow.holds Tryz.pinned (OpenSpec.upto scanSizesSpec)

/-- 'swingbridgelaw11.ScanGrows', WHERE WHAT IT READS IS OF BULK AT MOST 1048576: true; the input reads as it did. -/
def scanGrowsUptoRow : OpenClaim := { program := "ytjkgimloafpipaagreat", sum := "db60baf17da2ef9fb268bc7b89145cd56e1a39c09f76395c76cbc8c1d4ddca0e", func := "swingbridge/swingbridgelaw11.ScanGrows", spec := "scanGrows", inPlace := ["internal/bytealg.abigen_runtime_cmpstring"], unfollowed := true, recurses := true, apart := false, narrowed := true }
def ScanGrowsUptoSaid : Prop := scanGrowsUptoRow.holds Tryz.pinned (OpenSpec.upto scanGrowsSpec)

/-- 'swingbridgelaw11.ScanBatches', WHERE WHAT IT READS IS OF BULK AT MOST 1048576: true; the input reads as it did. -/
def scanBatchesUptoRow : OpenClaim := { program := "ytjkgimloafpipaagreat", sum := "db60baf17da2ef9fb268bc7b89145cd56e1a39c09f76395c76cbc8c1d4ddca0e", func := "swingbridge/swingbridgelaw11.ScanBatches", spec := "scanBatches", inPlace := ["internal/bytealg.abigen_runtime_cmpstring"], unfollowed := true, recurses := true, apart := false, narrowed := true }
def ScanBatchesUptoSaid : Prop := scanBatchesUptoRow.holds Tryz.pinned (OpenSpec.upto scanBatchesSpec)

/-- 'swingbridgelaw11.ScanBack', WHERE WHAT IT READS IS OF BULK AT MOST 1048576: true; the input reads as it did. -/
def scanBackUptoRow : OpenClaim := { program := "ytjkgimloafpipaagreat", sum := "db60baf17da2ef9fb268bc7b89145cd56e1a39c09f76395c76cbc8c1d4ddca0e", func := "swingbridge/swingbridgelaw11.ScanBack", spec := "scanBack", inPlace := ["internal/bytealg.abigen_runtime_cmpstring"], unfollowed := true, recurses := true, apart := false, narrowed := true }
def ScanBackUptoSaid : Prop := scanBackUptoRow.holds Tryz.pinned (OpenSpec.upto scanBackSpec)

/-- 'swingbridgelaw11.ScanTells', WHERE WHAT IT READS IS OF BULK AT MOST 1048576: true; the input reads as it did. -/
def scanTellsUptoRow : OpenClaim := { program := "ytjkgimloafpipaagreat", sum := "db60baf17da2ef9fb268bc7b89145cd56e1a39c09f76395c76cbc8c1d4ddca0e", func := "swingbridge/swingbridgelaw11.ScanTells", spec := "scanTells", inPlace := ["internal/bytealg.abigen_runtime_cmpstring"], unfollowed := true, recurses := true, apart := false, narrowed := true }
def ScanTellsUptoSaid : Prop := scanTellsUptoRow.holds Tryz.pinned (OpenSpec.upto scanTellsSpec)

/-- 'swingbridgelaw11.ScanStops', WHERE WHAT IT READS IS OF BULK AT MOST 1048576: true; the input reads as it did. -/
def scanStopsUptoRow : OpenClaim := { program := "ytjkgimloafpipaagreat", sum := "db60baf17da2ef9fb268bc7b89145cd56e1a39c09f76395c76cbc8c1d4ddca0e", func := "swingbridge/swingbridgelaw11.ScanStops", spec := "scanStops", inPlace := ["internal/bytealg.abigen_runtime_cmpstring"], unfollowed := true, recurses := true, apart := false, narrowed := true }
def ScanStopsUptoSaid : Prop := scanStopsUptoRow.holds Tryz.pinned (OpenSpec.upto scanStopsSpec)

/-- 'swingbridgelaw11.ScanChanges', WHERE WHAT IT READS IS OF BULK AT MOST 1048576: true; the input reads as it did. -/
def scanChangesUptoRow : OpenClaim := { program := "ytjkgimloafpipaagreat", sum := "db60baf17da2ef9fb268bc7b89145cd56e1a39c09f76395c76cbc8c1d4ddca0e", func := "swingbridge/swingbridgelaw11.ScanChanges", spec := "scanChanges", inPlace := ["internal/bytealg.abigen_runtime_cmpstring"], unfollowed := true, recurses := true, apart := false, narrowed := true }
def ScanChangesUptoSaid : Prop := scanChangesUptoRow.holds Tryz.pinned (OpenSpec.upto scanChangesSpec)

end Rows
end Go.Proofs.YtjkgimloafpipaaGreat
