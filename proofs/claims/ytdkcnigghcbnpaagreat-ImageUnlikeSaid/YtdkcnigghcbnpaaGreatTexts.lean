/- Arguments in memory: slices of texts. -/
import Derived.Test.YtdkcnigghcbnpaaGreatGenA
import Derived.ProofKit
import Derived.SliceStrings
import Derived.OpenShut
namespace Go.Proofs.YtdkcnigghcbnpaaGreat
set_option linter.unusedVariables false
set_option linter.unusedSimpArgs false
open Go.RowKit Go.ChangeShapes

/-- A slice of texts in memory. -/
def Texts (w : World) (a : Option Addr) (n : Nat) (ss : Nat → ByteArray) : Prop :=
  ∀ i, i < n → ∃ b o, a = some ⟨b, o, none⟩ ∧ b < w.heap.size ∧ w.cell? ⟨b, o + i, none⟩ = some (.string (ss i))
theorem texts_of {w : World} {a : Addr} {n c : Nat} {ss : List ByteArray} (hz : ss.length = c) (hl : n ≤ c) (h : ∀ i, i < ss.length → w.cell? (a.add i) = some (.string (ss.getD i ByteArray.empty))) :
    Texts w (some a) n (fun i => ss.getD i ByteArray.empty) := by
  intro i hi
  obtain ⟨b, o, s⟩ := a
  have h0 := h 0 (by omega)
  have hs : s = none := by simpa [Addr.add] using World.cell?_spot h0
  subst hs
  have hi' := h i (by omega)
  have e : (⟨b, o, none⟩ : Addr).add i = ⟨b, o + i, none⟩ := by unfold Addr.add; split <;> simp_all
  rw [e] at hi'
  exact ⟨b, o, rfl, World.block_lt_of_cell? w _ hi', hi'⟩

/-- A slice of bytes in memory. -/
def Octets (w : World) (a : Option Addr) (n : Nat) (ss : Nat → Int) : Prop :=
  ∀ i, i < n → ∃ b o, a = some ⟨b, o, none⟩ ∧ b < w.heap.size ∧ w.cell? ⟨b, o + i, none⟩ = some (.int .u8 (ss i)) ∧ 0 ≤ ss i ∧ ss i ≤ 255
theorem octets_of {w : World} {a : Addr} {n c : Nat} {zs : List Int} (hz : zs.length = c) (hl : n ≤ c) (h : ∀ i, i < zs.length → w.cell? (a.add i) = some (.int .u8 (zs.getD i 0))) (hw : ∀ z ∈ zs, (Lit.int .u8 z).wf = true) :
    Octets w (some a) n (fun i => zs.getD i 0) := by
  intro i hi
  obtain ⟨b, o, s⟩ := a
  have h0 := h 0 (by omega)
  have hs : s = none := by simpa [Addr.add] using World.cell?_spot h0
  subst hs
  have hi' := h i (by omega)
  have e : (⟨b, o, none⟩ : Addr).add i = ⟨b, o + i, none⟩ := by unfold Addr.add; split <;> simp_all
  rw [e] at hi'
  have hm : zs.getD i 0 ∈ zs := by
    rw [List.getD_eq_getElem?_getD, List.getElem?_eq_getElem (by omega)]
    exact List.getElem_mem _
  have hb := bounds_u8 (hw _ hm)
  exact ⟨b, o, rfl, World.block_lt_of_cell? w _ hi', hi', hb.1, hb.2⟩
end Go.Proofs.YtdkcnigghcbnpaaGreat
