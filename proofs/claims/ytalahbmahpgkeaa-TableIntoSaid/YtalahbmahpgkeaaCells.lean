/- Rows of one's own: new ones, their cells as a source; a small number does not wrap. No program is named here. -/
import Derived.Test.YtalahbmahpgkeaaAppend
import Derived.Test.YtalahbmahpgkeaaNum
namespace Go.Proofs.Ytalahbmahpgkeaa
set_option linter.unusedVariables false
set_option linter.unusedSimpArgs false
open Go.RowKit

theorem iwrap_small {x : Int} (h0 : -9223372036854775808 ≤ x) (h1 : x ≤ 9223372036854775807) : IntKind.i64.wrap x = x := by
  have e1 : (2 : Int) ^ IntKind.i64.bits = 18446744073709551616 := by decide
  have e2 : (2 : Int) ^ (IntKind.i64.bits - 1) = 9223372036854775808 := by decide
  have e3 : IntKind.i64.signed = true := rfl
  simp only [IntKind.wrap, e1, e2, e3, Bool.true_and, decide_eq_true_eq]
  split <;> omega
theorem own_empty (w : World) (e size : Nat) : (w.alloc (.cells #[] e)).ownsRow 0 e size (.slice (some ⟨w.heap.size, 0, none⟩) 0 0) 0 [] :=
  ⟨by simp, .inr ⟨w.heap.size, 0, #[], rfl, Nat.zero_le _, heap_alloc_new w _, Nat.le_refl _, by unfold maxLen; omega, by simp, by simp⟩⟩
theorem own_one (w : World) (v : Value) (e : TypeId) : (w.alloc (.cells #[v] e)).ownsRow 0 e 1 (.slice (some ⟨w.heap.size, 0, none⟩) 1 1) 1 [v] :=
  ⟨by simp, .inr ⟨w.heap.size, 1, #[v], rfl, Nat.zero_le _, heap_alloc_new w _, Nat.le_refl _, by unfold maxLen; omega, by simp, by simp⟩⟩
theorem holds_nil {w : World} {a : Option Addr} {ys : List Value} (h : ys.length = 0) : Holds9 w a ys := by
  intro j u hj
  have := (List.getElem?_eq_some_iff.1 hj).1
  omega
theorem holds_part {w : World} {base e size n g c : Nat} {xs : List Value} (h : w.ownsRow base e size (.slice (some ⟨g, 0, none⟩) n c) n xs) (o : Nat) (ys : List Value) (hy : ∀ j u, ys[j]? = some u → xs[o + j]? = some u) : Holds9 w (some ⟨g, o, none⟩) ys := by
  intro j u hj
  refine ⟨_, rfl, ?_⟩
  rw [add_off]
  exact own_cell h (hy j u hj)
theorem own_holds {w : World} {base e size n c : Nat} {a : Option Addr} {xs : List Value} (h : w.ownsRow base e size (.slice a n c) n xs) : Holds9 w a xs := by
  rcases h.2 with ⟨_, hx⟩ | ⟨g, cap, cur, hv, _⟩
  · exact holds_nil (by rw [h.1, hx]; simp)
  · injection hv with h1 h2 h3
    subst h1
    subst h3
    intro j u hj
    exact ⟨_, rfl, by rw [add_zero_off]; exact own_cell h hj⟩
theorem rowAt_one {W : World} {b n m : Nat} (h : RowAt W b n) (k : RowAt W b m) : n = m := by
  obtain ⟨c, t, h1, h2⟩ := h
  obtain ⟨c', t', h3, h4⟩ := k
  rw [h1] at h3
  cases h3
  exact h2.symm.trans h4
end Go.Proofs.Ytalahbmahpgkeaa
