/- Worlds behind an allocation or an append, under names of their own: what a drawn region's branches share. No program is named here. -/
import Derived.Test.YtdkcnigghcbnpaaGreatHeldE
import Derived.Test.YtdkcnigghcbnpaaGreatGenC
namespace Go.Proofs.YtdkcnigghcbnpaaGreat
set_option linter.unusedVariables false
set_option linter.unusedSimpArgs false
open Go.RowKit

theorem alloc_abs {K : World → Prop} {w : World} {o : Obj} (h : ∀ w', Kept (fun _ => False) w w' → w'.heap[w.heap.size]? = some o → K w') : K (w.alloc o) :=
  h _ (Kept.one_alloc w o) (World.alloc_heap_new w o)
theorem alloc_absD {K : World → Prop} {w : World} {o : Obj} (h : ∀ w', Kept (fun _ => False) w w' → w'.heap[w.heap.size]? = some o → K w') : K (w.alloc o).drew :=
  h _ (Kept.one_alloc w o).drew (World.alloc_heap_new w o)
theorem own_empty_at {w : World} {b e size : Nat} (h : w.heap[b]? = some (.cells #[] e (0, 0))) : w.ownsRow 0 e size (.slice (some ⟨b, 0, none⟩) 0 0) 0 [] :=
  ⟨by simp, .inr ⟨b, 0, #[], rfl, Nat.zero_le _, h, Nat.le_refl _, by unfold maxLen; omega, by simp, by simp⟩⟩
theorem own_fresh {B X n c : Nat} (h : B ≤ X) : ∀ b, (Value.slice (some ⟨X, 0, none⟩) n c).ownBlock = some b → B ≤ b := by
  intro b e
  have e : some X = some b := e
  have := Option.some.inj e
  omega
theorem own_or {B n : Nat} {v v' : Value} (F : ∀ b, v.ownBlock = some b → B ≤ b) (hz : B ≤ n) (h : v'.ownBlock = v.ownBlock ∨ v'.ownBlock = some n) : ∀ b, v'.ownBlock = some b → B ≤ b := by
  intro b e
  rcases h with h | h
  · exact F b (h.symm.trans e)
  · have := Option.some.inj (h.symm.trans e)
    omega
theorem kept_block {w w' : World} {b : Nat} {o : Obj} (k : Kept (fun _ => False) w w') (h : w.heap[b]? = some o) : w'.heap[b]? = some o := (k.block b (Array.getElem?_eq_some_iff.1 h).1 (fun e => e)).trans h
/-- One value in a row of its own, behind an append to an empty row. -/
theorem hold_one {w w' : World} {e0 y0 e e' : Nat} {v : Value} {n c : Nat} (he : w.heap[e0]? = some (.cells #[] e (0, 0))) (hy : w.heap[y0]? = some (.cells #[v] e' (0, 0))) (k : Kept (fun b => (Value.slice (some ⟨e0, 0, none⟩) n c).ownBlock = some b) w w') : Holds9 w' (some ⟨y0, 0, none⟩) [v] := by
  have hne : e0 ≠ y0 := by
    rintro rfl
    rw [he] at hy
    cases hy
  exact holds_block ((k.block y0 (Array.getElem?_eq_some_iff.1 hy).1 (fun e => hne (by have e : some e0 = some y0 := e; exact Option.some.inj e))).trans hy)
theorem kept_own {w w1 w' : World} {v : Value} (k1 : Kept (fun _ => False) w w1) (F : ∀ b, v.ownBlock = some b → w.heap.size ≤ b) (k : Kept (fun b => v.ownBlock = some b) w1 w') : Kept (fun _ => False) w w' :=
  k1.trans k (fun b hb e => by have := F b e; omega)
end Go.Proofs.YtdkcnigghcbnpaaGreat
