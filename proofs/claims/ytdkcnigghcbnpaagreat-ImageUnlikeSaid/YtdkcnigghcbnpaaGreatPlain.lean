/- The plain walk, and the walk inside the widest fence: one is the other. No program is named here. -/
import Derived.Test.YtdkcnigghcbnpaaGreatGenC
namespace Go.Proofs.YtdkcnigghcbnpaaGreat
set_option linter.unusedVariables false
set_option linter.unusedSimpArgs false
open Go.RowKit

/-- Inside the widest fence, outside of any round: the plain walk. -/
theorem wp_of_WR {n : Nat} {P : Program} {c : Code} {Q : Exit → Act → World → Prop} {a : Act} {w : World} (h : c.wpIn (WR none) n P Q a w) : c.wp P Q a w := by
  intro b k cs
  let b' : Frame := { b with roundOf := none }
  have hb : b'.roundOf = none := rfl
  obtain ⟨e, a', w', hq, harr⟩ := h b' k cs rfl trivial (fun _ e => by cases e)
  have ha := (arrivesIn_iff (I := Machine.fenced P (WR none)) (fun m m' => stepsIn_wide) hb).1 harr
  rw [Frame.atR_of_none hb] at ha
  refine ⟨e, a', w', hq, ?_⟩
  have hat : ∀ a todo, b'.at a todo = b.at a todo := fun _ _ => rfl
  rw [hat] at ha
  cases e <;> exact ha
theorem WR_of_wp {n : Nat} {P : Program} {c : Code} {Q : Exit → Act → World → Prop} {a : Act} {w : World} (h : c.wp P Q a w) : c.wpIn (WR none) n P Q a w := by
  intro b k cs hro _ _
  have hb : b.roundOf = none := hro
  obtain ⟨e, a', w', hq, harr⟩ := h b k cs
  refine ⟨e, a', w', hq, ?_⟩
  rw [Frame.atR_of_none hb]
  exact (arrivesIn_iff (I := Machine.fenced P (WR none)) (fun m m' => stepsIn_wide) hb).2 harr

end Go.Proofs.YtdkcnigghcbnpaaGreat
