/- Two texts, compared byte by byte. -/
import Derived.Test.YtalahbmahpgkeaaMem
import Derived.MapKept
namespace Go.Proofs.Ytalahbmahpgkeaa
set_option linter.unusedVariables false
set_option linter.unusedSimpArgs false
open Go.RowKit Go.MapKept

theorem bytes_ne {a b : ByteArray} (h : a ≠ b) : (a.toList == b.toList) = false := by
  rw [← beq_toListBytes]
  cases e : a == b with
  | false => rfl
  | true => exact (h ((bytes_beq a b).1 e)).elim
theorem bytes_self (a : ByteArray) : (a.toList == a.toList) = true := by simp
end Go.Proofs.Ytalahbmahpgkeaa
