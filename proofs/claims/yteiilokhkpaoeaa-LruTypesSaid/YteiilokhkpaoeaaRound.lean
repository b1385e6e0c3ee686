/- The end of a round of a range over a function: what its body may have changed. No program is named here. -/
import Derived.Test.YteiilokhkpaoeaaIter
import Derived.Test.YteiilokhkpaoeaaBox
import Derived.Test.YteiilokhkpaoeaaAppend
namespace Go.Proofs.Yteiilokhkpaoeaa
set_option linter.unusedVariables false
set_option linter.unusedSimpArgs false
open Go.RowKit

section
variable {W W2 W3 : World} {U : Nat → Prop} {l : Nat}

/-- A round that wrote only into blocks of its own. -/
theorem round_plain (kl : Kept (fun b => b = l) W W2) (hl : ¬ U l) (hlt : ∀ b, U b → b < W.heap.size) (hlW : l < W.heap.size) (k : Kept U W2 W3) :
    W3.heap[l]? = W2.heap[l]? ∧ Grow (fun b => U b ∨ b = l) (fun b => U b ∨ b = l) W W3 ∧ ¬ U l ∧ (∀ b, U b → U b) := by
  have hs := kl.size
  have hs2 := k.size
  refine ⟨k.block l (by omega) hl, ⟨(kl.mono (S' := fun b => U b ∨ b = l) fun _ _ e => .inr e).trans k fun _ _ e => .inl e, fun _ h => h, fun _ h => .inl h, ?_⟩, hl, fun _ h => h⟩
  rintro b (h | rfl)
  · have := hlt b h; omega
  · omega

/-- A round that appended to a row of its own, and wrote the row into its box. -/
theorem round_append {ob : Nat} {o o' : Value} (kl : Kept (fun b => b = l) W W2) (hl : ¬ U l) (hlt : ∀ b, U b → b < W.heap.size) (hlW : l < W.heap.size) (hob : U ob) (hoo : ∀ b, o.ownBlock = some b → U b)
    (k : Kept (fun b => b = ob ∨ o.ownBlock = some b) W2 W3) (ho' : o'.ownBlock = o.ownBlock ∨ ∃ nb, W2.heap.size ≤ nb ∧ o'.ownBlock = some nb) (hlt' : ∀ b, o'.ownBlock = some b → b < W3.heap.size) :
    W3.heap[l]? = W2.heap[l]? ∧ Grow (fun b => U b ∨ b = l) (fun b => (U b ∨ o'.ownBlock = some b) ∨ b = l) W W3 ∧ ¬ (U l ∨ o'.ownBlock = some l) ∧ (∀ b, U b → U b ∨ o'.ownBlock = some b) := by
  have hs := kl.size
  have hs2 := k.size
  have hsub : ∀ b, (b = ob ∨ o.ownBlock = some b) → U b := by
    rintro b (rfl | h)
    · exact hob
    · exact hoo b h
  refine ⟨k.block l (by omega) (fun h => hl (hsub l h)), ⟨(kl.mono (S' := fun b => U b ∨ b = l) fun _ _ e => .inr e).trans k fun b _ e => .inl (hsub b e), fun _ h => h.imp .inl id, ?_, ?_⟩, ?_, fun _ h => .inl h⟩
  · rintro b ((h | h) | h)
    · exact .inl (.inl h)
    · rcases ho' with e | ⟨nb, hn, e⟩
      · exact .inl (.inl (hoo b (e ▸ h)))
      · rw [e] at h
        cases h
        exact .inr (by omega)
    · exact .inl (.inr h)
  · rintro b ((h | h) | rfl)
    · have := hlt b h; omega
    · exact hlt' b h
    · omega
  · rintro (h | h)
    · exact hl h
    · rcases ho' with e | ⟨nb, hn, e⟩
      · exact hl (hoo l (e ▸ h))
      · rw [e] at h
        cases h
        omega
end
end Go.Proofs.Yteiilokhkpaoeaa
