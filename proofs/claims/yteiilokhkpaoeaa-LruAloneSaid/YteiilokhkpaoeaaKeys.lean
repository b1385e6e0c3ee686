/- What puts make of the keys of a list; all keys but one. Plain Lean. -/
import Derived.Test.YteiilokhkpaoeaaModel
namespace Go.Proofs.Yteiilokhkpaoeaa
set_option linter.unusedVariables false
set_option linter.unusedSimpArgs false
open Go.RowKit Go.MapKept

section
variable {κ ν : Type} [DecidableEq κ]
theorem putE_len (most : Int) (nb : Nat) (k : κ) (v : ν) (xs : List (Ent κ ν)) : (putE most nb k v xs).length ≤ xs.length + 1 := by
  unfold putE
  split
  · rename_i x hx
    have : (dropE k xs).length ≤ xs.length := List.length_filter_le _ _
    simp <;> omega
  · split <;> simp <;> omega
theorem putE_self (most : Int) (nb : Nat) (k : κ) (v : ν) (xs : List (Ent κ ν)) : ∃ x ∈ putE most nb k v xs, x.k = k := by
  unfold putE
  split
  · rename_i x hx
    exact ⟨_, List.mem_append_right _ (.head _), (lookE_some hx).2⟩
  · split <;> exact ⟨_, List.mem_append_right _ (.head _), rfl⟩
theorem putE_old {most : Int} (nb : Nat) (k : κ) (v : ν) {xs : List (Ent κ ν)} (h : (xs.length : Int) + 1 ≤ most) {y : κ} (hy : ∃ x ∈ xs, x.k = y) : ∃ x ∈ putE most nb k v xs, x.k = y := by
  obtain ⟨x, hx, rfl⟩ := hy
  by_cases e : x.k = k
  · rw [e]; exact putE_self _ _ _ _ _
  · unfold putE
    split
    · exact ⟨x, List.mem_append_left _ (List.mem_filter.2 ⟨hx, by simpa using e⟩), rfl⟩
    · rw [if_pos h]; exact ⟨x, List.mem_append_left _ hx, rfl⟩
end

/-- All keys but one. -/
def others (key : ByteArray) (l : List ByteArray) : List ByteArray := l.filter fun y => decide (y ≠ key)
theorem others_none (key : ByteArray) : others key [] = [] := rfl
theorem others_self {key y : ByteArray} (l : List ByteArray) (h : y = key) : others key (l ++ [y]) = others key l := by simp [others, h]
theorem others_more {key y : ByteArray} (l : List ByteArray) (h : y ≠ key) : others key (l ++ [y]) = others key l ++ [y] := by simp [others, h]
theorem others_len (key : ByteArray) (l : List ByteArray) : (others key l).length ≤ l.length := List.length_filter_le _ _
theorem others_drop {ν : Type} (key : ByteArray) (xs : List (Ent ByteArray ν)) : others key (xs.map (·.k)) = (dropE key xs).map (·.k) := by
  unfold others dropE
  rw [List.filter_map]
  rfl
end Go.Proofs.Yteiilokhkpaoeaa
