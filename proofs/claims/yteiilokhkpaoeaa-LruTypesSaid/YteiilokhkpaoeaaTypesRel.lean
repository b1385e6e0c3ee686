/- LruTypes: the entries of a list, each with its row of two numbers, beside the indexes. -/
import Derived.Test.YteiilokhkpaoeaaLruUS
import Derived.Test.YteiilokhkpaoeaaTypesLaw
namespace Go.Proofs.Yteiilokhkpaoeaa
set_option linter.unusedVariables false
set_option linter.unusedSimpArgs false
open Go.RowKit Go.MapKept

abbrev Sl := Addr × Nat × Nat
/-- Two rows, member by member. -/
inductive Twos {α β : Type} (R : α → β → Prop) : List α → List β → Prop
  | nil : Twos R [] []
  | cons {a b l m} : R a b → Twos R l m → Twos R (a :: l) (b :: m)
namespace Twos
variable {α β : Type} {R R' : α → β → Prop} {l l' : List α} {m m' : List β}
theorem mono (h : Twos R l m) (hr : ∀ a b, a ∈ l → R a b → R' a b) : Twos R' l m := by
  induction h with
  | nil => exact .nil
  | cons h1 _ ih => exact .cons (hr _ _ (.head _) h1) (ih fun a b ha => hr a b (.tail _ ha))
theorem append (h : Twos R l m) (h' : Twos R l' m') : Twos R (l ++ l') (m ++ m') := by
  induction h with
  | nil => exact h'
  | cons h1 _ ih => exact .cons h1 ih
theorem len (h : Twos R l m) : l.length = m.length := by
  induction h with
  | nil => rfl
  | cons _ _ ih => simp [ih]
theorem tail (h : Twos R l m) : Twos R l.tail m.tail := by
  cases h with
  | nil => exact .nil
  | cons _ h => exact h
theorem filter {p : α → Bool} {q : β → Bool} (h : Twos R l m) (hpq : ∀ a b, R a b → p a = q b) : Twos R (l.filter p) (m.filter q) := by
  induction h with
  | nil => exact .nil
  | @cons a b l m h1 _ ih =>
    have := hpq a b h1
    by_cases e : p a = true
    · rw [List.filter_cons_of_pos e, List.filter_cons_of_pos (by rw [← this]; exact e)]
      exact .cons h1 ih
    · rw [List.filter_cons_of_neg e, List.filter_cons_of_neg (by rw [← this]; exact e)]
      exact ih
theorem split {l1 l2 : List α} {x : α} (h : Twos R (l1 ++ x :: l2) m) : ∃ m1 y m2, m = m1 ++ y :: m2 ∧ R x y ∧ l1.length = m1.length := by
  induction l1 generalizing m with
  | nil =>
    cases h with
    | cons h1 h2 => exact ⟨[], _, _, rfl, h1, rfl⟩
  | cons a l1 ih =>
    cases h with
    | cons h1 h2 =>
      obtain ⟨m1, y, m2, rfl, h3, h4⟩ := ih h2
      exact ⟨_ :: m1, y, m2, rfl, h3, by simp [h4]⟩
end Twos

theorem twos_keys {ν : Type} {R : Ent Int ν → Nat → Prop} {z : Nat → Int} (hR : ∀ x i, R x i → x.k = z i) {xs : List (Ent Int ν)} {l : List Nat} (h : Twos R xs l) : xs.map (·.k) = l.map z := by
  induction h with
  | nil => rfl
  | cons h1 _ ih => simp [hR _ _ h1, ih]

theorem put_twos {ν : Type} {R : Ent Int ν → Nat → Prop} {z : Nat → Int} (hR : ∀ x i, R x i → x.k = z i) {xs : List (Ent Int ν)} {l : List Nat} (h : Twos R xs l) (M k nb : Nat) (v : ν) (hnew : ∀ x : Ent Int ν, x.k = z k → x.v = v → R x k) :
    Twos R (putE (M : Int) nb (z k) v xs) (putS z M k l) := by
  have hk := twos_keys hR h
  have hd : Twos R (dropE (z k) xs) (l.filter (fun i => decide (z i ≠ z k))) := h.filter fun a b hab => by rw [hR a b hab]
  unfold putE putS
  cases hl : lookE (z k) xs with
  | some x =>
    obtain ⟨hx, hxk⟩ := lookE_some hl
    have hm : z k ∈ l.map z := by rw [← hk, ← hxk]; exact List.mem_map_of_mem hx
    rw [if_pos hm]
    exact hd.append (.cons (hnew { x with v := v } hxk rfl) .nil)
  | none =>
    have hn := lookE_none hl
    have hm : ¬ z k ∈ l.map z := by rw [← hk]; intro hm; obtain ⟨x, hx, e⟩ := List.mem_map.1 hm; exact hn x hx e
    rw [if_neg hm]
    have hlen := h.len
    dsimp only
    by_cases hr : l.length + 1 ≤ M
    · rw [if_pos (by omega), if_pos hr]
      exact h.append (.cons (hnew _ rfl rfl) .nil)
    · rw [if_neg (by omega), if_neg hr]
      exact h.tail.append (.cons (hnew _ rfl rfl) .nil)

/-- An entry whose value is a row of two numbers: its index, its key. -/
structure TEnt (z : Nat → Int) (B : Nat) (W : World) (x : Ent Int Sl) (i : Nat) : Prop where
  key : x.k = z i
  val : ∃ vb, x.v = (⟨vb, 0, none⟩, 2, 2) ∧ B ≤ vb ∧ RowAt W vb 2 ∧ W.cell? ⟨vb, 0, none⟩ = some (.int .i64 i) ∧ W.cell? ⟨vb, 1, none⟩ = some (.int .i64 (z i))

theorem rowAt_one {W : World} {b n m : Nat} (h : RowAt W b n) (k : RowAt W b m) : n = m := by
  obtain ⟨c, t, h1, h2⟩ := h
  obtain ⟨c', t', h3, h4⟩ := k
  rw [h1] at h3
  cases h3
  exact h2.symm.trans h4
theorem row_not_fp {W : World} {bl bm vb : Nat} {M : Int} {xs : List (Ent Int Sl)} (h : US.L W bl bm M xs) (k : RowAt W vb 2) : ¬ Lfp bl bm xs vb := by
  rintro (rfl | rfl | ⟨x, hx, rfl⟩)
  · have := rowAt_one h.head k; omega
  · obtain ⟨es, cl, h1, _⟩ := h.tab
    obtain ⟨c, t, h2, _⟩ := k
    rw [h1] at h2
    cases h2
  · have := rowAt_one (h.row x hx) k; omega
theorem TEnt.kept {z : Nat → Int} {B : Nat} {W W' : World} {x : Ent Int Sl} {i : Nat} {S : Nat → Prop} (h : TEnt z B W x i) (k : Kept S W W') (hn : ∀ vb, B ≤ vb → RowAt W vb 2 → ¬ S vb) : TEnt z B W' x i := by
  obtain ⟨h1, vb, h2, h3, h4, h5, h6⟩ := h
  have := hn vb h3 h4
  exact ⟨h1, vb, h2, h3, h4.kept k this, (k.cell (p := ⟨vb, 0, none⟩) h4.lt this).trans h5, (k.cell (p := ⟨vb, 1, none⟩) h4.lt this).trans h6⟩
end Go.Proofs.Yteiilokhkpaoeaa
