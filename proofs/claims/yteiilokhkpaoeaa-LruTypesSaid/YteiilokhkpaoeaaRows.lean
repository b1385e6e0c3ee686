/-
  No cell of these rows narrows 'for every input' (looked for: loops, veiled, ifaces, maps, wideKeys, modest, calm, conditions, laid).
  DERIVED. THE GIVEN ROWS OF THIS SEAT. 8 by the template 'for every input the law returns true; each argument reads behind the call as it read before'; 0 by the template 'total and deterministic' (their statements: YteiilokhkpaoeaaTotals.lean).
  GIVEN WITH THE SEED: the statements are not yours to turn. If you find one false, say at which input.
  Laid BY PROGRAM, IN A SANDBOX (cutbox-rows.mjs): the forced cells as the released guide's own fill.sh prints them over the translation d0d7e91712768613… (all of the seat's roots in one cut). By AI agents, Wed Nov 11 2026. No macro, syntax, notation, axiom, sorry.
-/
import Derived.Test.YteiilokhkpaoeaaChecked
import GoSem.Claim
import GoSem.ClaimJoined
import GoSem.ClaimMapViews
import Derived.JoinedTies
import Derived.KernelRfl
namespace Go.Proofs.Yteiilokhkpaoeaa
/- THE CELL 'sum', in the pinned program and in every row, IS THE sha256 OF THE DUMP (.gsa) THAT YteiilokhkpaoeaaProg.lean LOADS. Nothing in Lean hashes anything: it is a label: what it is worth is what the hold of that sum in a sandbox is worth. -/
noncomputable def Try.pinned : Pinned := { name := "yteiilokhkpaoeaa", sum := "d0d7e91712768613acb3d19e44f5ffc3388b1d3bf048b0e2e064e36f58145b5b", checked := Try.checked }
namespace Rows
def none {H : Type} : Left H := { results := [], args := [] }

/-- 'swingbridgelaw09.LruFew': WHATEVER THE INPUT: true; the input reads as it did. -/
def lruFewSpec : ChangeSpec := { name := "lruFew", fn := fun _ => fun
  | [d1, d2] => { results := [.lit (.bool true)], args := [d1, d2] }
  | _ => none }
def lruFewRow : OpenClaim := { program := "yteiilokhkpaoeaa", sum := "d0d7e91712768613acb3d19e44f5ffc3388b1d3bf048b0e2e064e36f58145b5b", func := "swingbridge/swingbridgelaw09.LruFew", spec := "lruFew", apart := false }
def LruFewSaid : Prop := lruFewRow.holds Try.pinned (OpenSpec.ofChange lruFewSpec)

/-- ITS FALSE NEIGHBOUR: 'it returns false'. Refute it at one input. -/
def lruFewWrong : ChangeSpec := { name := "lruFew", fn := fun _ => fun
  | [d1, d2] => { results := [.lit (.bool false)], args := [d1, d2] }
  | _ => none }
def LruFewWrongFalsely : Prop := lruFewRow.holds Try.pinned (OpenSpec.ofChange lruFewWrong)

/-- 'swingbridgelaw09.LruNewest': WHATEVER THE INPUT: true; the input reads as it did. -/
def lruNewestSpec : ChangeSpec := { name := "lruNewest", fn := fun _ => fun
  | [d1, d2, d3] => { results := [.lit (.bool true)], args := [d1, d2, d3] }
  | _ => none }
def lruNewestRow : OpenClaim := { program := "yteiilokhkpaoeaa", sum := "d0d7e91712768613acb3d19e44f5ffc3388b1d3bf048b0e2e064e36f58145b5b", func := "swingbridge/swingbridgelaw09.LruNewest", spec := "lruNewest", apart := false }
def LruNewestSaid : Prop := lruNewestRow.holds Try.pinned (OpenSpec.ofChange lruNewestSpec)

/-- ITS FALSE NEIGHBOUR: 'it returns false'. Refute it at one input. -/
def lruNewestWrong : ChangeSpec := { name := "lruNewest", fn := fun _ => fun
  | [d1, d2, d3] => { results := [.lit (.bool false)], args := [d1, d2, d3] }
  | _ => none }
def LruNewestWrongFalsely : Prop := lruNewestRow.holds Try.pinned (OpenSpec.ofChange lruNewestWrong)

/-- 'swingbridgelaw09.LruTypes': WHATEVER THE INPUT: true; the input reads as it did. -/
def lruTypesSpec : ChangeSpec := { name := "lruTypes", fn := fun _ => fun
  | [d1, d2] => { results := [.lit (.bool true)], args := [d1, d2] }
  | _ => none }
def lruTypesRow : OpenClaim := { program := "yteiilokhkpaoeaa", sum := "d0d7e91712768613acb3d19e44f5ffc3388b1d3bf048b0e2e064e36f58145b5b", func := "swingbridge/swingbridgelaw09.LruTypes", spec := "lruTypes", unfollowed := true, recurses := true, apart := false }
def LruTypesSaid : Prop := lruTypesRow.holds Try.pinned (OpenSpec.ofChange lruTypesSpec)

/-- ITS FALSE NEIGHBOUR: 'it returns false'. Refute it at one input. -/
def lruTypesWrong : ChangeSpec := { name := "lruTypes", fn := fun _ => fun
  | [d1, d2] => { results := [.lit (.bool false)], args := [d1, d2] }
  | _ => none }
def LruTypesWrongFalsely : Prop := lruTypesRow.holds Try.pinned (OpenSpec.ofChange lruTypesWrong)

/-- 'swingbridgelaw09.LruStops': WHATEVER THE INPUT: true; the input reads as it did. -/
def lruStopsSpec : ChangeSpec := { name := "lruStops", fn := fun _ => fun
  | [d1, d2] => { results := [.lit (.bool true)], args := [d1, d2] }
  | _ => none }
def lruStopsRow : OpenClaim := { program := "yteiilokhkpaoeaa", sum := "d0d7e91712768613acb3d19e44f5ffc3388b1d3bf048b0e2e064e36f58145b5b", func := "swingbridge/swingbridgelaw09.LruStops", spec := "lruStops", unfollowed := true, recurses := true, apart := false }
def LruStopsSaid : Prop := lruStopsRow.holds Try.pinned (OpenSpec.ofChange lruStopsSpec)

/-- ITS FALSE NEIGHBOUR: 'it returns false'. Refute it at one input. -/
def lruStopsWrong : ChangeSpec := { name := "lruStops", fn := fun _ => fun
  | [d1, d2] => { results := [.lit (.bool false)], args := [d1, d2] }
  | _ => none }
def LruStopsWrongFalsely : Prop := lruStopsRow.holds Try.pinned (OpenSpec.ofChange lruStopsWrong)

/-- 'swingbridgelaw09.LruAlone': WHATEVER THE INPUT: true; the input reads as it did. -/
def lruAloneSpec : ChangeSpec := { name := "lruAlone", fn := fun _ => fun
  | [d1, d2] => { results := [.lit (.bool true)], args := [d1, d2] }
  | _ => none }
def lruAloneRow : OpenClaim := { program := "yteiilokhkpaoeaa", sum := "d0d7e91712768613acb3d19e44f5ffc3388b1d3bf048b0e2e064e36f58145b5b", func := "swingbridge/swingbridgelaw09.LruAlone", spec := "lruAlone", unfollowed := true, recurses := true, apart := false }
def LruAloneSaid : Prop := lruAloneRow.holds Try.pinned (OpenSpec.ofChange lruAloneSpec)

/-- ITS FALSE NEIGHBOUR: 'it returns false'. Refute it at one input. -/
def lruAloneWrong : ChangeSpec := { name := "lruAlone", fn := fun _ => fun
  | [d1, d2] => { results := [.lit (.bool false)], args := [d1, d2] }
  | _ => none }
def LruAloneWrongFalsely : Prop := lruAloneRow.holds Try.pinned (OpenSpec.ofChange lruAloneWrong)

/-- 'swingbridgelaw09.LruAgain': WHATEVER THE INPUT: true; the input reads as it did. -/
def lruAgainSpec : ChangeSpec := { name := "lruAgain", fn := fun _ => fun
  | [d1, d2, d3] => { results := [.lit (.bool true)], args := [d1, d2, d3] }
  | _ => none }
def lruAgainRow : OpenClaim := { program := "yteiilokhkpaoeaa", sum := "d0d7e91712768613acb3d19e44f5ffc3388b1d3bf048b0e2e064e36f58145b5b", func := "swingbridge/swingbridgelaw09.LruAgain", spec := "lruAgain", unfollowed := true, recurses := true, apart := false }
def LruAgainSaid : Prop := lruAgainRow.holds Try.pinned (OpenSpec.ofChange lruAgainSpec)

/-- ITS FALSE NEIGHBOUR: 'it returns false'. Refute it at one input. -/
def lruAgainWrong : ChangeSpec := { name := "lruAgain", fn := fun _ => fun
  | [d1, d2, d3] => { results := [.lit (.bool false)], args := [d1, d2, d3] }
  | _ => none }
def LruAgainWrongFalsely : Prop := lruAgainRow.holds Try.pinned (OpenSpec.ofChange lruAgainWrong)

/-- 'swingbridgelaw09.LruPlays': WHATEVER THE INPUT: true; the input reads as it did. -/
def lruPlaysSpec : ChangeSpec := { name := "lruPlays", fn := fun _ => fun
  | [d1, d2] => { results := [.lit (.bool true)], args := [d1, d2] }
  | _ => none }
def lruPlaysRow : OpenClaim := { program := "yteiilokhkpaoeaa", sum := "d0d7e91712768613acb3d19e44f5ffc3388b1d3bf048b0e2e064e36f58145b5b", func := "swingbridge/swingbridgelaw09.LruPlays", spec := "lruPlays", unfollowed := true, recurses := true, apart := false }
def LruPlaysSaid : Prop := lruPlaysRow.holds Try.pinned (OpenSpec.ofChange lruPlaysSpec)

/-- ITS FALSE NEIGHBOUR: 'it returns false'. Refute it at one input. -/
def lruPlaysWrong : ChangeSpec := { name := "lruPlays", fn := fun _ => fun
  | [d1, d2] => { results := [.lit (.bool false)], args := [d1, d2] }
  | _ => none }
def LruPlaysWrongFalsely : Prop := lruPlaysRow.holds Try.pinned (OpenSpec.ofChange lruPlaysWrong)

/-- 'swingbridgelaw09.LruDrops': WHATEVER THE INPUT: true; the input reads as it did. -/
def lruDropsSpec : ChangeSpec := { name := "lruDrops", fn := fun _ => fun
  | [d1, d2] => { results := [.lit (.bool true)], args := [d1, d2] }
  | _ => none }
def lruDropsRow : OpenClaim := { program := "yteiilokhkpaoeaa", sum := "d0d7e91712768613acb3d19e44f5ffc3388b1d3bf048b0e2e064e36f58145b5b", func := "swingbridge/swingbridgelaw09.LruDrops", spec := "lruDrops", unfollowed := true, recurses := true, apart := false }
def LruDropsSaid : Prop := lruDropsRow.holds Try.pinned (OpenSpec.ofChange lruDropsSpec)

/-- ITS FALSE NEIGHBOUR: 'it returns false'. Refute it at one input. -/
def lruDropsWrong : ChangeSpec := { name := "lruDrops", fn := fun _ => fun
  | [d1, d2] => { results := [.lit (.bool false)], args := [d1, d2] }
  | _ => none }
def LruDropsWrongFalsely : Prop := lruDropsRow.holds Try.pinned (OpenSpec.ofChange lruDropsWrong)

/- THE SECOND FORM. 'bulk': how many values and letters a reading holds, each counted each time it is reached (what is shared counts as often as it is met; a slice's spare places count too). A statement '..UptoSaid' is the law's where the arguments, and the package variables that the reading takes, are together of bulk at most 1048576: NARROWER than '..Said'. Prove '..Said' where nothing that the law and all that it calls make is longer than what came in: it says more and counts as full. Else prove '..UptoSaid'. A law counts once. -/
mutual
def uptoBulk {H : Type} : DataW H → Nat
  | .lit (.string bytes) => bytes.length + 1
  | .lit _ => 1
  | .nil => 1
  | .ptr d => uptoBulk d + 1
  | .slice elems spare => uptoBulkAll elems + uptoBulkAll spare + 1
  | .agg parts => uptoBulkAll parts + 1
  | .iface _ d => uptoBulk d + 1
  | .map entries => uptoBulkEntries entries + 1
  | .held _ => 1
def uptoBulkAll {H : Type} : List (DataW H) → Nat
  | [] => 0
  | d :: r => uptoBulk d + uptoBulkAll r
def uptoBulkEntries {H : Type} : List (Lit × DataW H) → Nat
  | [] => 0
  | x :: r => uptoBulkEntry x + uptoBulkEntries r
def uptoBulkEntry {H : Type} : Lit × DataW H → Nat
  | (.string bytes, d) => bytes.length + uptoBulk d + 1
  | (_, d) => uptoBulk d + 1
 end
def uptoSmall : (H : Type) → List (DataW H) → Bool := fun _ ds => decide (uptoBulkAll ds ≤ 1048576)
def OpenSpec.upto (s : _root_.Go.ChangeSpec) : _root_.Go.OpenSpec := { _root_.Go.OpenSpec.ofChange s with cond := some uptoSmall }

/-- 'swingbridgelaw09.LruFew', WHERE WHAT IT READS IS OF BULK AT MOST 1048576: true; the input reads as it did. -/
def lruFewUptoRow : OpenClaim := { program := "yteiilokhkpaoeaa", sum := "d0d7e91712768613acb3d19e44f5ffc3388b1d3bf048b0e2e064e36f58145b5b", func := "swingbridge/swingbridgelaw09.LruFew", spec := "lruFew", apart := false, narrowed := true }
def LruFewUptoSaid : Prop := lruFewUptoRow.holds Try.pinned (OpenSpec.upto lruFewSpec)

/-- 'swingbridgelaw09.LruNewest', WHERE WHAT IT READS IS OF BULK AT MOST 1048576: true; the input reads as it did. -/
def lruNewestUptoRow : OpenClaim := { program := "yteiilokhkpaoeaa", sum := "d0d7e91712768613acb3d19e44f5ffc3388b1d3bf048b0e2e064e36f58145b5b", func := "swingbridge/swingbridgelaw09.LruNewest", spec := "lruNewest", apart := false, narrowed := true }
def LruNewestUptoSaid : Prop := lruNewestUptoRow.holds Try.pinned (OpenSpec.upto lruNewestSpec)

/-- 'swingbridgelaw09.LruTypes', WHERE WHAT IT READS IS OF BULK AT MOST 1048576: true; the input reads as it did. -/
def lruTypesUptoRow : OpenClaim := { program := "yteiilokhkpaoeaa", sum := "d0d7e91712768613acb3d19e44f5ffc3388b1d3bf048b0e2e064e36f58145b5b", func := "swingbridge/swingbridgelaw09.LruTypes", spec := "lruTypes", unfollowed := true, recurses := true, apart := false, narrowed := true }
def LruTypesUptoSaid : Prop := lruTypesUptoRow.holds Try.pinned (OpenSpec.upto lruTypesSpec)

/-- 'swingbridgelaw09.LruStops', WHERE WHAT IT READS IS OF BULK AT MOST 1048576: true; the input reads as it did. -/
def lruStopsUptoRow : OpenClaim := { program := "yteiilokhkpaoeaa", sum := "d0d7e91712768613acb3d19e44f5ffc3388b1d3bf048b0e2e064e36f58145b5b", func := "swingbridge/swingbridgelaw09.LruStops", spec := "lruStops", unfollowed := true, recurses := true, apart := false, narrowed := true }
def LruStopsUptoSaid : Prop := lruStopsUptoRow.holds Try.pinned (OpenSpec.upto lruStopsSpec)

/-- 'swingbridgelaw09.LruAlone', WHERE WHAT IT READS IS OF BULK AT MOST 1048576: true; the input reads as it did. -/
def lruAloneUptoRow : OpenClaim := { program := "yteiilokhkpaoeaa", sum := "d0d7e91712768613acb3d19e44f5ffc3388b1d3bf048b0e2e064e36f58145b5b", func := "swingbridge/swingbridgelaw09.LruAlone", spec := "lruAlone", unfollowed := true, recurses := true, apart := false, narrowed := true }
def LruAloneUptoSaid : Prop := lruAloneUptoRow.holds Try.pinned (OpenSpec.upto lruAloneSpec)

/-- 'swingbridgelaw09.LruAgain', WHERE WHAT IT READS IS OF BULK AT MOST 1048576: true; the input reads as it did. -/
def lruAgainUptoRow : OpenClaim := { program := "yteiilokhkpaoeaa", sum := "d0d7e91712768613acb3d19e44f5ffc3388b1d3bf048b0e2e064e36f58145b5b", func := "swingbridge/swingbridgelaw09.LruAgain", spec := "lruAgain", unfollowed := true, recurses := true, apart := false, narrowed := true }
def LruAgainUptoSaid : Prop := lruAgainUptoRow.holds Try.pinned (OpenSpec.upto lruAgainSpec)

/-- 'swingbridgelaw09.LruPlays', WHERE WHAT IT READS IS OF BULK AT MOST 1048576: true; the input reads as it did. -/
def lruPlaysUptoRow : OpenClaim := { program := "yteiilokhkpaoeaa", sum := "d0d7e91712768613acb3d19e44f5ffc3388b1d3bf048b0e2e064e36f58145b5b", func := "swingbridge/swingbridgelaw09.LruPlays", spec := "lruPlays", unfollowed := true, recurses := true, apart := false, narrowed := true }
def LruPlaysUptoSaid : Prop := lruPlaysUptoRow.holds Try.pinned (OpenSpec.upto lruPlaysSpec)

/-- 'swingbridgelaw09.LruDrops', WHERE WHAT IT READS IS OF BULK AT MOST 1048576: true; the input reads as it did. -/
def lruDropsUptoRow : OpenClaim := { program := "yteiilokhkpaoeaa", sum := "d0d7e91712768613acb3d19e44f5ffc3388b1d3bf048b0e2e064e36f58145b5b", func := "swingbridge/swingbridgelaw09.LruDrops", spec := "lruDrops", unfollowed := true, recurses := true, apart := false, narrowed := true }
def LruDropsUptoSaid : Prop := lruDropsUptoRow.holds Try.pinned (OpenSpec.upto lruDropsSpec)

end Rows
end Go.Proofs.Yteiilokhkpaoeaa
