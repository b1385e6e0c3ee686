/- Boxes: blocks of one cell, as captured variables have. No program is named here. -/
import Derived.Test.YtalahbmahpgkeaaMem
namespace Go.Proofs.Ytalahbmahpgkeaa
set_option linter.unusedVariables false
set_option linter.unusedSimpArgs false
open Go.RowKit

/-- Block b is a box that holds v. -/
structure Box (W : World) (b : Nat) (v : Value) : Prop where
  row : RowAt W b 1
  cell : W.cell? ⟨b, 0, none⟩ = some v

theorem Box.lt {W : World} {b : Nat} {v : Value} (h : Box W b v) : b < W.heap.size := h.row.lt
theorem Box.frozen {W : World} {b : Nat} {v : Value} (h : Box W b v) : W.frozen? ⟨b, 0, none⟩ = false := h.row.frozen 0
theorem Box.new (W : World) (v : Value) (t : TypeId) : Box (W.alloc (.cells #[v] t)) W.heap.size v := by
  refine ⟨RowAt.new W #[v] t, ?_⟩
  have := heap_alloc_new W (.cells #[v] t)
  simp only [World.cell?, this]
  rfl
theorem Box.kept {S : Nat → Prop} {W W' : World} {b : Nat} {v : Value} (h : Box W b v) (k : Kept S W W') (hn : ¬ S b) : Box W' b v :=
  ⟨h.row.kept k hn, (k.cell (p := ⟨b, 0, none⟩) h.lt hn).trans h.cell⟩
theorem Box.alloc {W : World} {b : Nat} {v : Value} (h : Box W b v) (o : Obj) : Box (W.alloc o) b v := h.kept (Kept.one_alloc W o) (fun e => e)
theorem Box.set {W : World} {b : Nat} {v : Value} (h : Box W b v) (u : Value) : Box (W.setCell ⟨b, 0, none⟩ u) b u :=
  ⟨h.row.setCell _ _, cell_set_same h.row (by omega) u⟩
theorem Box.other {W : World} {b b' : Nat} {v : Value} (h : Box W b v) (u : Value) (hn : b ≠ b') : Box (W.setCell ⟨b', 0, none⟩ u) b v :=
  h.kept (Kept.one_set W ⟨b', 0, none⟩ u) hn
theorem Box.twin {W W' : World} {b : Nat} {v : Value} (h : Box W b v) (t : Twin W' W) : Box W' b v := h.kept ((Kept.refl (fun _ => False) W).twin t) (fun e => e)
end Go.Proofs.Ytalahbmahpgkeaa
