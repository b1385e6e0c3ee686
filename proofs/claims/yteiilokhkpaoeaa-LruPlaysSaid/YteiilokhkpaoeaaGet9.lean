/- What a get makes of both lists. Plain Lean. -/
import Derived.Test.YteiilokhkpaoeaaBoth9
namespace Go.Proofs.Yteiilokhkpaoeaa
set_option linter.unusedVariables false
set_option linter.unusedSimpArgs false
open Go.RowKit Go.MapKept

theorem prs_look (k : ByteArray) (xs : List (Ent ByteArray Int)) : lookP k (prs xs) = (lookE k xs).map fun x => (x.k, x.v) := by
  unfold lookP prs lookE
  rw [List.find?_map]
  rfl
theorem prs_get (k : ByteArray) (xs : List (Ent ByteArray Int)) : getP k (prs xs) = prs (useE k xs) := by
  unfold getP useE
  rw [prs_look, prs_drop]
  cases lookE k xs with
  | none => rfl
  | some x => simp [prs]
theorem useE_len {k : ByteArray} {xs : List (Ent ByteArray Int)} (hn : (xs.map (·.k)).Nodup) : (useE k xs).length = xs.length := by
  unfold useE
  cases h : lookE k xs with
  | none => rfl
  | some x => have := drop_one hn h; simp <;> omega
end Go.Proofs.Yteiilokhkpaoeaa
