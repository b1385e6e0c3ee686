/-
  No cell of these rows narrows 'for every input' (looked for: loops, veiled, ifaces, maps, wideKeys, modest, calm, conditions, laid).
  DERIVED. THE GIVEN ROWS OF THIS SEAT. 11 by the template 'for every input the law returns true; each argument reads behind the call as it read before'; 0 by the template 'total and deterministic' (their statements: YtdkcnigghcbnpaaGreatTotals.lean).
  GIVEN WITH THE SEED: the statements are not yours to turn. If you find one false, say at which input.
  Laid BY PROGRAM, IN A SANDBOX (cutbox-rows.mjs): the forced cells as the released guide's own fill.sh prints them over the translation d203f623f499e7b7… (all of the seat's roots in one cut). By AI agents, Wed Nov 11 2026. No macro, syntax, notation, axiom, sorry.
-/
import Derived.Test.YtdkcnigghcbnpaaGreatChecked
import GoSem.Claim
import GoSem.ClaimJoined
import GoSem.ClaimMapViews
import Derived.JoinedTies
import Derived.KernelRfl
namespace Go.Proofs.YtdkcnigghcbnpaaGreat
/- THE CELL 'sum', in the pinned program and in every row, IS THE sha256 OF THE DUMP (.gsa) THAT YtdkcnigghcbnpaaGreatProg.lean LOADS. Nothing in Lean hashes anything: it is a label: what it is worth is what the hold of that sum in a sandbox is worth. -/
noncomputable def Tryz.pinned : Pinned := { name := "ytdkcnigghcbnpaagreat", sum := "d203f623f499e7b7f1497f6f584c1a983f1974b6d26bb649189a2a46686dbfd9", checked := Tryz.checked }
namespace Rows
def none {H : Type} : Left H := { results := [], args := [] }

/-- 'swingbridgelaw11.ScanBack': WHATEVER THE INPUT: true; the input reads as it did. -/
def scanBackSpec : ChangeSpec := { name := "scanBack", fn := fun _ => fun
  | [d1, d2, d3, d4, d5] => { results := [.lit (.bool true)], args := [d1, d2, d3, d4, d5] }
  | _ => none }
def scanBackRow : OpenClaim := { program := "ytdkcnigghcbnpaagreat", sum := "d203f623f499e7b7f1497f6f584c1a983f1974b6d26bb649189a2a46686dbfd9", func := "swingbridge/swingbridgelaw11.ScanBack", spec := "scanBack", inPlace := ["internal/bytealg.abigen_runtime_cmpstring"], unfollowed := true, recurses := true, apart := false }
def ScanBackSaid : Prop := scanBackRow.holds Tryz.pinned (OpenSpec.ofChange scanBackSpec)

/-- ITS FALSE NEIGHBOUR: 'it returns false'. Refute it at one input. -/
def scanBackWrong : ChangeSpec := { name := "scanBack", fn := fun _ => fun
  | [d1, d2, d3, d4, d5] => { results := [.lit (.bool false)], args := [d1, d2, d3, d4, d5] }
  | _ => none }
def ScanBackWrongFalsely : Prop := scanBackRow.holds Tryz.pinned (OpenSpec.ofChange scanBackWrong)

/-- 'swingbridgelaw11.ScanTells': WHATEVER THE INPUT: true; the input reads as it did. -/
def scanTellsSpec : ChangeSpec := { name := "scanTells", fn := fun _ => fun
  | [d1, d2, d3, d4, d5, d6, d7, d8] => { results := [.lit (.bool true)], args := [d1, d2, d3, d4, d5, d6, d7, d8] }
  | _ => none }
def scanTellsRow : OpenClaim := { program := "ytdkcnigghcbnpaagreat", sum := "d203f623f499e7b7f1497f6f584c1a983f1974b6d26bb649189a2a46686dbfd9", func := "swingbridge/swingbridgelaw11.ScanTells", spec := "scanTells", inPlace := ["internal/bytealg.abigen_runtime_cmpstring"], unfollowed := true, recurses := true, apart := false }
def ScanTellsSaid : Prop := scanTellsRow.holds Tryz.pinned (OpenSpec.ofChange scanTellsSpec)

/-- ITS FALSE NEIGHBOUR: 'it returns false'. Refute it at one input. -/
def scanTellsWrong : ChangeSpec := { name := "scanTells", fn := fun _ => fun
  | [d1, d2, d3, d4, d5, d6, d7, d8] => { results := [.lit (.bool false)], args := [d1, d2, d3, d4, d5, d6, d7, d8] }
  | _ => none }
def ScanTellsWrongFalsely : Prop := scanTellsRow.holds Tryz.pinned (OpenSpec.ofChange scanTellsWrong)

/-- 'swingbridgelaw11.ScanChanges': WHATEVER THE INPUT: true; the input reads as it did. -/
def scanChangesSpec : ChangeSpec := { name := "scanChanges", fn := fun _ => fun
  | [d1, d2, d3, d4, d5] => { results := [.lit (.bool true)], args := [d1, d2, d3, d4, d5] }
  | _ => none }
def scanChangesRow : OpenClaim := { program := "ytdkcnigghcbnpaagreat", sum := "d203f623f499e7b7f1497f6f584c1a983f1974b6d26bb649189a2a46686dbfd9", func := "swingbridge/swingbridgelaw11.ScanChanges", spec := "scanChanges", inPlace := ["internal/bytealg.abigen_runtime_cmpstring"], unfollowed := true, recurses := true, apart := false }
def ScanChangesSaid : Prop := scanChangesRow.holds Tryz.pinned (OpenSpec.ofChange scanChangesSpec)

/-- ITS FALSE NEIGHBOUR: 'it returns false'. Refute it at one input. -/
def scanChangesWrong : ChangeSpec := { name := "scanChanges", fn := fun _ => fun
  | [d1, d2, d3, d4, d5] => { results := [.lit (.bool false)], args := [d1, d2, d3, d4, d5] }
  | _ => none }
def ScanChangesWrongFalsely : Prop := scanChangesRow.holds Tryz.pinned (OpenSpec.ofChange scanChangesWrong)

/-- 'swingbridgelaw18.ImageWrites': WHATEVER THE INPUT: true; the input reads as it did. -/
def imageWritesSpec : ChangeSpec := { name := "imageWrites", fn := fun _ => fun
  | [d] => { results := [.lit (.bool true)], args := [d] }
  | _ => none }
def imageWritesRow : OpenClaim := { program := "ytdkcnigghcbnpaagreat", sum := "d203f623f499e7b7f1497f6f584c1a983f1974b6d26bb649189a2a46686dbfd9", func := "swingbridge/swingbridgelaw18.ImageWrites", spec := "imageWrites", unfollowed := true, recurses := true, apart := false }
def ImageWritesSaid : Prop := imageWritesRow.holds Tryz.pinned (OpenSpec.ofChange imageWritesSpec)

/-- ITS FALSE NEIGHBOUR: 'it returns false'. Refute it at one input. -/
def imageWritesWrong : ChangeSpec := { name := "imageWrites", fn := fun _ => fun
  | [d] => { results := [.lit (.bool false)], args := [d] }
  | _ => none }
def ImageWritesWrongFalsely : Prop := imageWritesRow.holds Tryz.pinned (OpenSpec.ofChange imageWritesWrong)

/-- 'swingbridgelaw18.ImageReads': WHATEVER THE INPUT: true; the input reads as it did. -/
def imageReadsSpec : ChangeSpec := { name := "imageReads", fn := fun _ => fun
  | [d] => { results := [.lit (.bool true)], args := [d] }
  | _ => none }
def imageReadsRow : OpenClaim := { program := "ytdkcnigghcbnpaagreat", sum := "d203f623f499e7b7f1497f6f584c1a983f1974b6d26bb649189a2a46686dbfd9", func := "swingbridge/swingbridgelaw18.ImageReads", spec := "imageReads", unfollowed := true, recurses := true, apart := false }
def ImageReadsSaid : Prop := imageReadsRow.holds Tryz.pinned (OpenSpec.ofChange imageReadsSpec)

/-- ITS FALSE NEIGHBOUR: 'it returns false'. Refute it at one input. -/
def imageReadsWrong : ChangeSpec := { name := "imageReads", fn := fun _ => fun
  | [d] => { results := [.lit (.bool false)], args := [d] }
  | _ => none }
def ImageReadsWrongFalsely : Prop := imageReadsRow.holds Tryz.pinned (OpenSpec.ofChange imageReadsWrong)

/-- 'swingbridgelaw18.ImageBack': WHATEVER THE INPUT: true; the input reads as it did. -/
def imageBackSpec : ChangeSpec := { name := "imageBack", fn := fun _ => fun
  | [d1, d2] => { results := [.lit (.bool true)], args := [d1, d2] }
  | _ => none }
def imageBackRow : OpenClaim := { program := "ytdkcnigghcbnpaagreat", sum := "d203f623f499e7b7f1497f6f584c1a983f1974b6d26bb649189a2a46686dbfd9", func := "swingbridge/swingbridgelaw18.ImageBack", spec := "imageBack", unfollowed := true, recurses := true, apart := false }
def ImageBackSaid : Prop := imageBackRow.holds Tryz.pinned (OpenSpec.ofChange imageBackSpec)

/-- ITS FALSE NEIGHBOUR: 'it returns false'. Refute it at one input. -/
def imageBackWrong : ChangeSpec := { name := "imageBack", fn := fun _ => fun
  | [d1, d2] => { results := [.lit (.bool false)], args := [d1, d2] }
  | _ => none }
def ImageBackWrongFalsely : Prop := imageBackRow.holds Tryz.pinned (OpenSpec.ofChange imageBackWrong)

/-- 'swingbridgelaw18.ImageCuts': WHATEVER THE INPUT: true; the input reads as it did. -/
def imageCutsSpec : ChangeSpec := { name := "imageCuts", fn := fun _ => fun
  | [d1, d2, d3] => { results := [.lit (.bool true)], args := [d1, d2, d3] }
  | _ => none }
def imageCutsRow : OpenClaim := { program := "ytdkcnigghcbnpaagreat", sum := "d203f623f499e7b7f1497f6f584c1a983f1974b6d26bb649189a2a46686dbfd9", func := "swingbridge/swingbridgelaw18.ImageCuts", spec := "imageCuts", unfollowed := true, recurses := true, apart := false }
def ImageCutsSaid : Prop := imageCutsRow.holds Tryz.pinned (OpenSpec.ofChange imageCutsSpec)

/-- ITS FALSE NEIGHBOUR: 'it returns false'. Refute it at one input. -/
def imageCutsWrong : ChangeSpec := { name := "imageCuts", fn := fun _ => fun
  | [d1, d2, d3] => { results := [.lit (.bool false)], args := [d1, d2, d3] }
  | _ => none }
def ImageCutsWrongFalsely : Prop := imageCutsRow.holds Tryz.pinned (OpenSpec.ofChange imageCutsWrong)

/-- 'swingbridgelaw18.ImageUnlike': WHATEVER THE INPUT: true; the input reads as it did. -/
def imageUnlikeSpec : ChangeSpec := { name := "imageUnlike", fn := fun _ => fun
  | [d1, d2] => { results := [.lit (.bool true)], args := [d1, d2] }
  | _ => none }
def imageUnlikeRow : OpenClaim := { program := "ytdkcnigghcbnpaagreat", sum := "d203f623f499e7b7f1497f6f584c1a983f1974b6d26bb649189a2a46686dbfd9", func := "swingbridge/swingbridgelaw18.ImageUnlike", spec := "imageUnlike", unfollowed := true, recurses := true, apart := false }
def ImageUnlikeSaid : Prop := imageUnlikeRow.holds Tryz.pinned (OpenSpec.ofChange imageUnlikeSpec)

/-- ITS FALSE NEIGHBOUR: 'it returns false'. Refute it at one input. -/
def imageUnlikeWrong : ChangeSpec := { name := "imageUnlike", fn := fun _ => fun
  | [d1, d2] => { results := [.lit (.bool false)], args := [d1, d2] }
  | _ => none }
def ImageUnlikeWrongFalsely : Prop := imageUnlikeRow.holds Tryz.pinned (OpenSpec.ofChange imageUnlikeWrong)

/-- 'swingbridgelaw18.ImageMore': WHATEVER THE INPUT: true; the input reads as it did. -/
def imageMoreSpec : ChangeSpec := { name := "imageMore", fn := fun _ => fun
  | [d1, d2] => { results := [.lit (.bool true)], args := [d1, d2] }
  | _ => none }
def imageMoreRow : OpenClaim := { program := "ytdkcnigghcbnpaagreat", sum := "d203f623f499e7b7f1497f6f584c1a983f1974b6d26bb649189a2a46686dbfd9", func := "swingbridge/swingbridgelaw18.ImageMore", spec := "imageMore", unfollowed := true, recurses := true, apart := false }
def ImageMoreSaid : Prop := imageMoreRow.holds Tryz.pinned (OpenSpec.ofChange imageMoreSpec)

/-- ITS FALSE NEIGHBOUR: 'it returns false'. Refute it at one input. -/
def imageMoreWrong : ChangeSpec := { name := "imageMore", fn := fun _ => fun
  | [d1, d2] => { results := [.lit (.bool false)], args := [d1, d2] }
  | _ => none }
def ImageMoreWrongFalsely : Prop := imageMoreRow.holds Tryz.pinned (OpenSpec.ofChange imageMoreWrong)

/-- 'swingbridgelaw18.ImageNames': WHATEVER THE INPUT: true; the input reads as it did. -/
def imageNamesSpec : ChangeSpec := { name := "imageNames", fn := fun _ => fun
  | [d] => { results := [.lit (.bool true)], args := [d] }
  | _ => none }
def imageNamesRow : OpenClaim := { program := "ytdkcnigghcbnpaagreat", sum := "d203f623f499e7b7f1497f6f584c1a983f1974b6d26bb649189a2a46686dbfd9", func := "swingbridge/swingbridgelaw18.ImageNames", spec := "imageNames", unfollowed := true, recurses := true, apart := false }
def ImageNamesSaid : Prop := imageNamesRow.holds Tryz.pinned (OpenSpec.ofChange imageNamesSpec)

/-- ITS FALSE NEIGHBOUR: 'it returns false'. Refute it at one input. -/
def imageNamesWrong : ChangeSpec := { name := "imageNames", fn := fun _ => fun
  | [d] => { results := [.lit (.bool false)], args := [d] }
  | _ => none }
def ImageNamesWrongFalsely : Prop := imageNamesRow.holds Tryz.pinned (OpenSpec.ofChange imageNamesWrong)

/-- 'swingbridgelaw18.ImageMany': WHATEVER THE INPUT: true; the input reads as it did. -/
def imageManySpec : ChangeSpec := { name := "imageMany", fn := fun _ => fun
  | [d1, d2, d3] => { results := [.lit (.bool true)], args := [d1, d2, d3] }
  | _ => none }
def imageManyRow : OpenClaim := { program := "ytdkcnigghcbnpaagreat", sum := "d203f623f499e7b7f1497f6f584c1a983f1974b6d26bb649189a2a46686dbfd9", func := "swingbridge/swingbridgelaw18.ImageMany", spec := "imageMany", unfollowed := true, recurses := true, apart := false }
def ImageManySaid : Prop := imageManyRow.holds Tryz.pinned (OpenSpec.ofChange imageManySpec)

/-- ITS FALSE NEIGHBOUR: 'it returns false'. Refute it at one input. -/
def imageManyWrong : ChangeSpec := { name := "imageMany", fn := fun _ => fun
  | [d1, d2, d3] => { results := [.lit (.bool false)], args := [d1, d2, d3] }
  | _ => none }
def ImageManyWrongFalsely : Prop := imageManyRow.holds Tryz.pinned (OpenSpec.ofChange imageManyWrong)

/- THE SECOND FORM. 'bulk': how many values and letters a reading holds, each counted each time it is reached (what is shared counts as often as it is met; a slice's spare places count too). A statement '..UptoSaid' is the law's where the arguments, and the package variables that the reading takes, are together of bulk at most 1048576: NARROWER than '..Said'. Prove '..Said' where nothing that the law and all that it calls make is longer than what came in: it says more and counts as full. Else prove '..UptoSaid'. A law counts once. -/
mutual
def uptoBulk {H : Type} : DataW H → Nat
  | .lit (.string bytes) => bytes.length + 1
  | .lit _ => 1
  | .nil => 1
  | .ptr d => uptoBulk d + 1
  | .slice elems spare => uptoBulkAll elems + uptoBulkAll spare + 1
  | .agg parts => uptoBulkAll parts + 1
  | .iface _ d => uptoBulk d + 1
  | .map entries => uptoBulkEntries entries + 1
  | .held _ => 1
def uptoBulkAll {H : Type} : List (DataW H) → Nat
  | [] => 0
  | d :: r => uptoBulk d + uptoBulkAll r
def uptoBulkEntries {H : Type} : List (Lit × DataW H) → Nat
  | [] => 0
  | x :: r => uptoBulkEntry x + uptoBulkEntries r
def uptoBulkEntry {H : Type} : Lit × DataW H → Nat
  | (.string bytes, d) => bytes.length + uptoBulk d + 1
  | (_, d) => uptoBulk d + 1
 end
def uptoSmall : (H : Type) → List (DataW H) → Bool := fun _ ds => decide (uptoBulkAll ds ≤ 1048576)
def OpenSpec.upto (s : _root_.Go.ChangeSpec) : _root_.Go.OpenSpec := { _root_.Go.OpenSpec.ofChange s with cond := some uptoSmall }

/-- 'swingbridgelaw11.ScanBack', WHERE WHAT IT READS IS OF BULK AT MOST 1048576: true; the input reads as it did. -/
def scanBackUptoRow : OpenClaim := { program := "ytdkcnigghcbnpaagreat", sum := "d203f623f499e7b7f1497f6f584c1a983f1974b6d26bb649189a2a46686dbfd9", func := "swingbridge/swingbridgelaw11.ScanBack", spec := "scanBack", inPlace := ["internal/bytealg.abigen_runtime_cmpstring"], unfollowed := true, recurses := true, apart := false, narrowed := true }
def ScanBackUptoSaid : Prop := scanBackUptoRow.holds Tryz.pinned (OpenSpec.upto scanBackSpec)

/-- 'swingbridgelaw11.ScanTells', WHERE WHAT IT READS IS OF BULK AT MOST 1048576: true; the input reads as it did. -/
def scanTellsUptoRow : OpenClaim := { program := "ytdkcnigghcbnpaagreat", sum := "d203f623f499e7b7f1497f6f584c1a983f1974b6d26bb649189a2a46686dbfd9", func := "swingbridge/swingbridgelaw11.ScanTells", spec := "scanTells", inPlace := ["internal/bytealg.abigen_runtime_cmpstring"], unfollowed := true, recurses := true, apart := false, narrowed := true }
def ScanTellsUptoSaid : Prop := scanTellsUptoRow.holds Tryz.pinned (OpenSpec.upto scanTellsSpec)

/-- 'swingbridgelaw11.ScanChanges', WHERE WHAT IT READS IS OF BULK AT MOST 1048576: true; the input reads as it did. -/
def scanChangesUptoRow : OpenClaim := { program := "ytdkcnigghcbnpaagreat", sum := "d203f623f499e7b7f1497f6f584c1a983f1974b6d26bb649189a2a46686dbfd9", func := "swingbridge/swingbridgelaw11.ScanChanges", spec := "scanChanges", inPlace := ["internal/bytealg.abigen_runtime_cmpstring"], unfollowed := true, recurses := true, apart := false, narrowed := true }
def ScanChangesUptoSaid : Prop := scanChangesUptoRow.holds Tryz.pinned (OpenSpec.upto scanChangesSpec)

/-- 'swingbridgelaw18.ImageWrites', WHERE WHAT IT READS IS OF BULK AT MOST 1048576: true; the input reads as it did. -/
def imageWritesUptoRow : OpenClaim := { program := "ytdkcnigghcbnpaagreat", sum := "d203f623f499e7b7f1497f6f584c1a983f1974b6d26bb649189a2a46686dbfd9", func := "swingbridge/swingbridgelaw18.ImageWrites", spec := "imageWrites", unfollowed := true, recurses := true, apart := false, narrowed := true }
def ImageWritesUptoSaid : Prop := imageWritesUptoRow.holds Tryz.pinned (OpenSpec.upto imageWritesSpec)

/-- 'swingbridgelaw18.ImageReads', WHERE WHAT IT READS IS OF BULK AT MOST 1048576: true; the input reads as it did. -/
def imageReadsUptoRow : OpenClaim := { program := "ytdkcnigghcbnpaagreat", sum := "d203f623f499e7b7f1497f6f584c1a983f1974b6d26bb649189a2a46686dbfd9", func := "swingbridge/swingbridgelaw18.ImageReads", spec := "imageReads", unfollowed := true, recurses := true, apart := false, narrowed := true }
def ImageReadsUptoSaid : Prop := imageReadsUptoRow.holds Tryz.pinned (OpenSpec.upto imageReadsSpec)

/-- 'swingbridgelaw18.ImageBack', WHERE WHAT IT READS IS OF BULK AT MOST 1048576: true; the input reads as it did. -/
def imageBackUptoRow : OpenClaim := { program := "ytdkcnigghcbnpaagreat", sum := "d203f623f499e7b7f1497f6f584c1a983f1974b6d26bb649189a2a46686dbfd9", func := "swingbridge/swingbridgelaw18.ImageBack", spec := "imageBack", unfollowed := true, recurses := true, apart := false, narrowed := true }
def ImageBackUptoSaid : Prop := imageBackUptoRow.holds Tryz.pinned (OpenSpec.upto imageBackSpec)

/-- 'swingbridgelaw18.ImageCuts', WHERE WHAT IT READS IS OF BULK AT MOST 1048576: true; the input reads as it did. -/
def imageCutsUptoRow : OpenClaim := { program := "ytdkcnigghcbnpaagreat", sum := "d203f623f499e7b7f1497f6f584c1a983f1974b6d26bb649189a2a46686dbfd9", func := "swingbridge/swingbridgelaw18.ImageCuts", spec := "imageCuts", unfollowed := true, recurses := true, apart := false, narrowed := true }
def ImageCutsUptoSaid : Prop := imageCutsUptoRow.holds Tryz.pinned (OpenSpec.upto imageCutsSpec)

/-- 'swingbridgelaw18.ImageUnlike', WHERE WHAT IT READS IS OF BULK AT MOST 1048576: true; the input reads as it did. -/
def imageUnlikeUptoRow : OpenClaim := { program := "ytdkcnigghcbnpaagreat", sum := "d203f623f499e7b7f1497f6f584c1a983f1974b6d26bb649189a2a46686dbfd9", func := "swingbridge/swingbridgelaw18.ImageUnlike", spec := "imageUnlike", unfollowed := true, recurses := true, apart := false, narrowed := true }
def ImageUnlikeUptoSaid : Prop := imageUnlikeUptoRow.holds Tryz.pinned (OpenSpec.upto imageUnlikeSpec)

/-- 'swingbridgelaw18.ImageMore', WHERE WHAT IT READS IS OF BULK AT MOST 1048576: true; the input reads as it did. -/
def imageMoreUptoRow : OpenClaim := { program := "ytdkcnigghcbnpaagreat", sum := "d203f623f499e7b7f1497f6f584c1a983f1974b6d26bb649189a2a46686dbfd9", func := "swingbridge/swingbridgelaw18.ImageMore", spec := "imageMore", unfollowed := true, recurses := true, apart := false, narrowed := true }
def ImageMoreUptoSaid : Prop := imageMoreUptoRow.holds Tryz.pinned (OpenSpec.upto imageMoreSpec)

/-- 'swingbridgelaw18.ImageNames', WHERE WHAT IT READS IS OF BULK AT MOST 1048576: true; the input reads as it did. -/
def imageNamesUptoRow : OpenClaim := { program := "ytdkcnigghcbnpaagreat", sum := "d203f623f499e7b7f1497f6f584c1a983f1974b6d26bb649189a2a46686dbfd9", func := "swingbridge/swingbridgelaw18.ImageNames", spec := "imageNames", unfollowed := true, recurses := true, apart := false, narrowed := true }
def ImageNamesUptoSaid : Prop := imageNamesUptoRow.holds Tryz.pinned (OpenSpec.upto imageNamesSpec)

/-- 'swingbridgelaw18.ImageMany', WHERE WHAT IT READS IS OF BULK AT MOST 1048576: true; the input reads as it did. -/
def imageManyUptoRow : OpenClaim := { program := "ytdkcnigghcbnpaagreat", sum := "d203f623f499e7b7f1497f6f584c1a983f1974b6d26bb649189a2a46686dbfd9", func := "swingbridge/swingbridgelaw18.ImageMany", spec := "imageMany", unfollowed := true, recurses := true, apart := false, narrowed := true }
def ImageManyUptoSaid : Prop := imageManyUptoRow.holds Tryz.pinned (OpenSpec.upto imageManySpec)

end Rows
end Go.Proofs.YtdkcnigghcbnpaaGreat
