/- A loop in whose rounds functions are ranged over: each range leaves a mark among the deferred calls; the law of such a loop. No program is named here. -/
import Derived.Test.YteiilokhkpaoeaaWide
import Derived.LoopIn
namespace Go.Proofs.Yteiilokhkpaoeaa
set_option linter.unusedVariables false
set_option linter.unusedSimpArgs false
open Go.RowKit

/-- The marks of ranges, the last one first. -/
def marks (dl : List Nat) : List Deferred := dl.map fun d => { target := .collected d, args := #[] }
/-- A frame whose named slots hold something else. -/
def upd (T : Array Value) (slots : List Nat) (f : Nat → Value) : Array Value := slots.foldl (fun t s => t.setIfInBounds s (f s)) T
theorem upd_self (T : Array Value) (slots : List Nat) : upd T slots (fun s => T.getD s undef) = T := by
  induction slots with
  | nil => rfl
  | cons s l ih =>
    have h : T.setIfInBounds s (T.getD s undef) = T := by
      apply Array.ext
      · simp
      · intro i h1 h2
        by_cases e : s = i
        · subst e
          simp [Array.getElem_setIfInBounds, h2]
        · exact Array.getElem_setIfInBounds_ne h2 e
    unfold upd at ih ⊢
    rw [List.foldl_cons, h]
    exact ih

/-- What a round owes at its end. -/
def MarkEnd (T : Array Value) (slots : List Nat) (N : Nat) (Rel : List Nat → (Nat → Value) → World → Prop) (dl : List Nat) (a' : Act) (w' : World) : Prop :=
  ∃ dl', Rel dl' (fun s => a'.tmps.getD s undef) w' ∧ a' = ⟨upd T slots (fun s => a'.tmps.getD s undef), marks dl'⟩ ∧ dl.length < dl'.length ∧ dl'.length ≤ N

theorem wpIn_loop_marks {F : Fence} {n : Nat} {P : Program} {c : Code} {Q : Exit → Act → World → Prop} {w : World} {T : Array Value} (slots : List Nat) (N : Nat) (Rel : List Nat → (Nat → Value) → World → Prop)
    (h0 : Rel [] (fun s => T.getD s undef) w)
    (round : ∀ dl f wr, Rel dl f wr → dl.length ≤ N → c.wpIn F n P (Exit.then (MarkEnd T slots N Rel dl) Q) ⟨upd T slots f, marks dl⟩ wr) : (Code.loop c).wpIn F n P Q ⟨T, []⟩ w := by
  refine wpIn_loop (fun a' w' => ∃ dl f, Rel dl f w' ∧ a' = ⟨upd T slots f, marks dl⟩ ∧ dl.length ≤ N) (fun a' _ => N - a'.defers.length) ⟨[], _, h0, by rw [upd_self]; rfl, Nat.zero_le _⟩ ?_
  rintro a' w' ⟨dl, f, hr, rfl, hN⟩
  refine Code.wpIn_mono (fun e a2 w2 q => ?_) (round dl f w' hr hN)
  cases e with
  | normal =>
    obtain ⟨dl', h1, h2, h3, h4⟩ := q
    refine ⟨⟨dl', _, h1, h2, h4⟩, ?_⟩
    rw [h2]
    simp only [marks, List.length_map]
    omega
  | ret => exact q
  | exit id => exact q
  | goto t => exact q
  | panic ch => exact q
  | outgrown => exact q
end Go.Proofs.Yteiilokhkpaoeaa
