/- The list of chapter 09 as a row of entries: what a put, a use and a drop make of it. Plain Lean. -/
import Derived.Test.YtalahbmahpgkeaaLru
namespace Go.Proofs.Ytalahbmahpgkeaa
set_option linter.unusedVariables false
set_option linter.unusedSimpArgs false
open Go.RowKit Go.MapKept

section
variable {κ ν : Type} [DecidableEq κ]

/-- The entry of a key. -/
def lookE (k : κ) (xs : List (Ent κ ν)) : Option (Ent κ ν) := xs.find? fun x => decide (x.k = k)
/-- The entries of all other keys. -/
def dropE (k : κ) (xs : List (Ent κ ν)) : List (Ent κ ν) := xs.filter fun x => decide (x.k ≠ k)
/-- A key is used. -/
def useE (k : κ) (xs : List (Ent κ ν)) : List (Ent κ ν) :=
  match lookE k xs with
  | some x => dropE k xs ++ [x]
  | none => xs
/-- A key is given a value; nb is the block of a link that is new. -/
def putE (most : Int) (nb : Nat) (k : κ) (v : ν) (xs : List (Ent κ ν)) : List (Ent κ ν) :=
  match lookE k xs with
  | some x => dropE k xs ++ [{ x with v := v }]
  | none => if (xs.length : Int) + 1 ≤ most then xs ++ [⟨nb, k, v⟩] else xs.tail ++ [⟨nb, k, v⟩]
/-- Who goes. -/
def outE (most : Int) (k : κ) (xs : List (Ent κ ν)) : Option κ :=
  match lookE k xs with
  | some _ => none
  | none => if (xs.length : Int) + 1 ≤ most then none else xs.head?.map (·.k)

theorem split_key {xs : List (Ent κ ν)} (hn : (xs.map (·.k)).Nodup) (k : κ) :
    (lookE k xs = none ∧ (∀ x ∈ xs, x.k ≠ k) ∧ dropE k xs = xs) ∨ ∃ l1 x l2, xs = l1 ++ x :: l2 ∧ x.k = k ∧ lookE k xs = some x ∧ dropE k xs = l1 ++ l2 := by
  unfold lookE dropE
  by_cases h : ∃ x ∈ xs, x.k = k
  · obtain ⟨x, hx, e⟩ := h
    obtain ⟨l1, l2, rfl⟩ := List.append_of_mem hx
    have h1 : ∀ y ∈ l1, y.k ≠ k := by
      intro y hy e'
      have : y.k ∈ l1.map (·.k) := List.mem_map_of_mem hy
      simp only [List.map_append, List.map_cons] at hn
      grind
    have h2 : ∀ y ∈ l2, y.k ≠ k := by
      intro y hy e'
      have : y.k ∈ l2.map (·.k) := List.mem_map_of_mem hy
      simp only [List.map_append, List.map_cons] at hn
      grind
    refine .inr ⟨l1, x, l2, rfl, e, ?_, ?_⟩
    · rw [List.find?_append, List.find?_eq_none.2 (by simpa using h1)]
      simp [e]
    · rw [List.filter_append, List.filter_cons_of_neg (by simp [e]), List.filter_eq_self.2 (by simpa using h1), List.filter_eq_self.2 (by simpa using h2)]
  · have h' : ∀ x ∈ xs, x.k ≠ k := fun x hx e => h ⟨x, hx, e⟩
    exact .inl ⟨List.find?_eq_none.2 (by simpa using h'), h', List.filter_eq_self.2 (by simpa using h')⟩

theorem lookE_some {xs : List (Ent κ ν)} {k : κ} {x : Ent κ ν} (h : lookE k xs = some x) : x ∈ xs ∧ x.k = k := by
  unfold lookE at h
  exact ⟨List.mem_of_find?_eq_some h, by simpa using List.find?_some h⟩
theorem lookE_none {xs : List (Ent κ ν)} {k : κ} (h : lookE k xs = none) : ∀ x ∈ xs, x.k ≠ k := by
  unfold lookE at h
  simpa using h
theorem lookE_mem {xs : List (Ent κ ν)} (hn : (xs.map (·.k)).Nodup) {x : Ent κ ν} (hx : x ∈ xs) : lookE x.k xs = some x := by
  rcases split_key hn x.k with ⟨_, h, _⟩ | ⟨l1, y, l2, e, hy, h, _⟩
  · exact (h x hx rfl).elim
  · rw [h, one_of_key hn (by rw [e]; simp) hx hy]

/-- Which blocks a list has behind a step. -/
theorem fp_drop {bl bm : Nat} {xs : List (Ent κ ν)} {k : κ} {b : Nat} (h : Lfp bl bm (dropE k xs) b) : Lfp bl bm xs b := by
  rcases h with h | h | ⟨x, hx, e⟩
  · exact .inl h
  · exact .inr (.inl h)
  · exact .inr (.inr ⟨x, (List.mem_filter.1 hx).1, e⟩)
theorem fp_use {bl bm : Nat} {xs : List (Ent κ ν)} {k : κ} {b : Nat} (h : Lfp bl bm (useE k xs) b) : Lfp bl bm xs b := by
  unfold useE at h
  split at h
  · rename_i x hx
    rcases h with h | h | ⟨y, hy, e⟩
    · exact .inl h
    · exact .inr (.inl h)
    · rcases List.mem_append.1 hy with hy | hy
      · exact .inr (.inr ⟨y, (List.mem_filter.1 hy).1, e⟩)
      · rw [List.mem_singleton.1 hy] at e
        exact .inr (.inr ⟨x, (lookE_some hx).1, e⟩)
  · exact h
theorem fp_put {bl bm : Nat} {xs : List (Ent κ ν)} {most : Int} {nb : Nat} {k : κ} {v : ν} {b : Nat} (h : Lfp bl bm (putE most nb k v xs) b) : Lfp bl bm xs b ∨ b = nb := by
  unfold putE at h
  split at h
  · rename_i x hx
    rcases h with h | h | ⟨y, hy, e⟩
    · exact .inl (.inl h)
    · exact .inl (.inr (.inl h))
    · rcases List.mem_append.1 hy with hy | hy
      · exact .inl (.inr (.inr ⟨y, (List.mem_filter.1 hy).1, e⟩))
      · rw [List.mem_singleton.1 hy] at e
        exact .inl (.inr (.inr ⟨x, (lookE_some hx).1, e⟩))
  · have : ∀ y, y ∈ xs ++ [⟨nb, k, v⟩] ∨ y ∈ xs.tail ++ [⟨nb, k, v⟩] → y.b = b → Lfp bl bm xs b ∨ b = nb := by
      intro y hy e
      have : y ∈ xs ∨ y = ⟨nb, k, v⟩ := by
        have := @List.mem_of_mem_tail _ y xs
        grind
      rcases this with hy | rfl
      · exact .inl (.inr (.inr ⟨y, hy, e⟩))
      · exact .inr e.symm
    rcases h with h | h | ⟨y, hy, e⟩
    · exact .inl (.inl h)
    · exact .inl (.inr (.inl h))
    · split at hy
      · exact this y (.inl hy) e
      · exact this y (.inr hy) e
end

/-- What a call changes in a list of its caller's own, that lies from B on. -/
theorem Kept.own {κ ν : Type} {w0 w w' : World} {B bl bm : Nat} {xs : List (Ent κ ν)} (h : Kept (fun b => B ≤ b) w0 w) (k : Kept (Lfp bl bm xs) w w') (hg : ∀ b, Lfp bl bm xs b → B ≤ b) : Kept (fun b => B ≤ b) w0 w' :=
  h.trans k (fun b _ e => hg b e)
theorem Kept.ownT {w0 w w' : World} {B : Nat} (h : Kept (fun b => B ≤ b) w0 w) (t : Twin w' w) : Kept (fun b => B ≤ b) w0 w' := h.twin t
theorem Kept.none {w w' : World} (h : Kept (fun b => w.heap.size ≤ b) w w') : Kept (fun _ => False) w w' := h.mono (fun k hk e => by omega)
theorem fp_ge_put {κ ν : Type} [DecidableEq κ] {B bl bm nb : Nat} {xs : List (Ent κ ν)} {most : Int} {k : κ} {v : ν} (hg : ∀ b, Lfp bl bm xs b → B ≤ b) (hn : B ≤ nb) : ∀ b, Lfp bl bm (putE most nb k v xs) b → B ≤ b := by
  intro b h
  rcases fp_put h with h | rfl
  · exact hg b h
  · exact hn
theorem fp_ge {κ ν : Type} {B bl bm : Nat} {xs : List (Ent κ ν)} (h1 : B ≤ bl) (h2 : B ≤ bm) (h3 : ∀ x ∈ xs, B ≤ x.b) : ∀ b, Lfp bl bm xs b → B ≤ b := by
  rintro b (rfl | rfl | ⟨y, hy, rfl⟩)
  · exact h1
  · exact h2
  · exact h3 y hy
theorem fp_nil {κ ν : Type} {B bl bm : Nat} (h1 : B ≤ bl) (h2 : B ≤ bm) : ∀ b, Lfp bl bm ([] : List (Ent κ ν)) b → B ≤ b := by
  rintro b (rfl | rfl | ⟨y, hy, _⟩)
  · exact h1
  · exact h2
  · cases hy
end Go.Proofs.Ytalahbmahpgkeaa
