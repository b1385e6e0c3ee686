/- A walk along the ring of a list: how many are still to come. No program is named here. -/
import Derived.Test.YtdkcnigghcbnpaaGreatGenB
import Derived.Test.YtdkcnigghcbnpaaGreatIter
import Derived.Test.YtdkcnigghcbnpaaGreatGenA
namespace Go.Proofs.YtdkcnigghcbnpaaGreat
set_option linter.unusedVariables false
set_option linter.unusedSimpArgs false
open Go.RowKit Go.MapKept

/-- Where a walk along the ring stands: how many are still to come. -/
noncomputable def leftE {κ ν : Type} (bl : Nat) (xs : List (Ent κ ν)) (p : Value) : Nat :=
  leastOf fun n => ∃ pre rest, xs = pre ++ rest ∧ p = ptr (behind (bl, 1) (spots rest)) ∧ rest.length = n
theorem leftE_eq {κ ν : Type} {bl : Nat} {xs pre rest : List (Ent κ ν)} (hn : (xs.map (·.b)).Nodup) (h : xs = pre ++ rest) : leftE bl xs (ptr (behind (bl, 1) (spots rest))) = rest.length := by
  have hex : ∃ n, ∃ pre' rest', xs = pre' ++ rest' ∧ ptr (behind (bl, 1) (spots rest)) = ptr (behind (bl, 1) (spots rest')) ∧ rest'.length = n := ⟨_, pre, rest, h, rfl, rfl⟩
  obtain ⟨⟨pre', rest', h', e, hlen⟩, _⟩ := leastOf_spec hex
  unfold leftE
  rw [← hlen]
  have e' : behind (bl, 1) (spots rest) = behind (bl, 1) (spots rest') := by
    unfold ptr at e
    injection e with e
    injection e with e
    injection e with e1 e2
    exact Prod.ext e1 e2
  cases rest with
  | nil =>
    cases rest' with
    | nil => rfl
    | cons y t => simp [behind, spots] at e'
  | cons x t =>
    cases rest' with
    | nil => simp [behind, spots] at e'
    | cons y t' =>
      simp only [behind, spots, List.map_cons, List.cons_append, List.head_cons, Prod.mk.injEq, and_true] at e'
      have h1 : xs[pre.length]? = some x := by rw [h]; simp
      have h2 : xs[pre'.length]? = some y := by rw [h']; simp
      have hl1 : pre.length < (xs.map (·.b)).length := by rw [h]; simp
      have hl2 : pre'.length < (xs.map (·.b)).length := by rw [h']; simp
      have : pre.length = pre'.length := by
        refine (List.getElem_inj (h₀ := hl1) (h₁ := hl2) hn).1 ?_
        have g1 : (xs.map (·.b))[pre.length]? = some x.b := by rw [List.getElem?_map, h1]; rfl
        have g2 : (xs.map (·.b))[pre'.length]? = some y.b := by rw [List.getElem?_map, h2]; rfl
        rw [List.getElem?_eq_getElem hl1] at g1
        rw [List.getElem?_eq_getElem hl2] at g2
        rw [Option.some.inj g1, Option.some.inj g2, e']
      have l1 := congrArg List.length h
      have l2 := congrArg List.length h'
      simp at l1 l2 ⊢
      omega

end Go.Proofs.YtdkcnigghcbnpaaGreat
