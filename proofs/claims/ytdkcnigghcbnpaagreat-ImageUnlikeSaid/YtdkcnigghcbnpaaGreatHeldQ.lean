/- A region whose order is drawn, in a plain walk, whose calls may panic: what is asked at a panic may not look at the slots. No program is named here. -/
import Derived.Test.YtdkcnigghcbnpaaGreatHeld
import Derived.Test.YtdkcnigghcbnpaaGreatHeldE
namespace Go.Proofs.YtdkcnigghcbnpaaGreat
set_option linter.unusedVariables false
set_option linter.unusedSimpArgs false
open Go.RowKit

section
variable {P : Program} {Q : Exit → Act → World → Prop}
/-- The beginning, in a plain walk; panics are not ruled out. -/
theorem wp_region_heldQ {id : Nat} {a : Act} {w : World} {l : List Oper} {S : World → Prop} (hm : P.follows .mixedOrders = true) (hS : S w.drew)
    (h : S w.drew → wpAnyH P .any l.toArray Q S l.length (Array.replicate l.length false) a w.drew) : (Code.region id l.toArray true).wp P Q a w := by
  refine wp_region_any hm (wpAny_of_held (S := S) _ _ _ _ ?_)
  simpa using h hS
end
end Go.Proofs.YtdkcnigghcbnpaaGreat
