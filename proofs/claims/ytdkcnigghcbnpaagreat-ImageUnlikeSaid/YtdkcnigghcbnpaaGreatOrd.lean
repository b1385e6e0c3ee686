/- Texts in order, byte by byte; rows that rise; the one row that rises. Plain. -/
import Derived.Test.YtdkcnigghcbnpaaGreatTblB
import Derived.Lib.Bytealg
import Derived.Sort.Statements
namespace Go.Proofs.YtdkcnigghcbnpaaGreat
set_option linter.unusedVariables false
set_option linter.unusedSimpArgs false
open Go.RowKit Go.MapKept

theorem cmp_refl : ∀ a : List UInt8, Lib.compareBytes a a = 0
  | [] => rfl
  | x :: a => by unfold Lib.compareBytes; rw [if_neg (UInt8.lt_irrefl x), if_neg (UInt8.lt_irrefl x)]; exact cmp_refl a
theorem cmp_three : ∀ a b : List UInt8, Lib.compareBytes a b = -1 ∨ Lib.compareBytes a b = 0 ∨ Lib.compareBytes a b = 1
  | [], [] => .inr (.inl rfl)
  | [], _ :: _ => .inl rfl
  | _ :: _, [] => .inr (.inr rfl)
  | x :: a, y :: b => by
    unfold Lib.compareBytes
    split
    · exact .inl rfl
    · split
      · exact .inr (.inr rfl)
      · exact cmp_three a b
theorem cmp_swap : ∀ a b : List UInt8, Lib.compareBytes b a = - Lib.compareBytes a b
  | [], [] => rfl
  | [], _ :: _ => rfl
  | _ :: _, [] => rfl
  | x :: a, y :: b => by
    unfold Lib.compareBytes
    by_cases h : x < y
    · have h2 : ¬ y < x := UInt8.not_lt.2 (UInt8.le_of_lt h)
      rw [if_neg h2, if_pos h, if_pos h]
      rfl
    · by_cases h2 : y < x
      · rw [if_pos h2, if_neg h, if_pos h2]
      · rw [if_neg h2, if_neg h, if_neg h, if_neg h2]
        exact cmp_swap a b
theorem cmp_zero : ∀ {a b : List UInt8}, Lib.compareBytes a b = 0 → a = b
  | [], [], _ => rfl
  | [], _ :: _, h => by cases h
  | _ :: _, [], h => by cases h
  | x :: a, y :: b, h => by
    unfold Lib.compareBytes at h
    by_cases h1 : x < y
    · rw [if_pos h1] at h; cases h
    · by_cases h2 : y < x
      · rw [if_neg h1, if_pos h2] at h; cases h
      · rw [if_neg h1, if_neg h2] at h
        have : x = y := UInt8.le_antisymm (UInt8.not_lt.1 h2) (UInt8.not_lt.1 h1)
        rw [this, cmp_zero h]
theorem cmp_trans : ∀ {a b c : List UInt8}, Lib.compareBytes a b = -1 → Lib.compareBytes b c = -1 → Lib.compareBytes a c = -1
  | [], [], _, h, _ => by cases h
  | [], _ :: _, [], _, h => by cases h
  | [], _ :: _, _ :: _, _, _ => rfl
  | _ :: _, [], _, h, _ => by cases h
  | _ :: _, _ :: _, [], _, h => by cases h
  | x :: a, y :: b, z :: c, h1, h2 => by
    unfold Lib.compareBytes at h1 h2 ⊢
    by_cases e1 : x < y
    · by_cases e2 : y < z
      · rw [if_pos (UInt8.lt_trans e1 e2)]
      · by_cases e3 : z < y
        · rw [if_neg e2, if_pos e3] at h2; cases h2
        · have : y = z := UInt8.le_antisymm (UInt8.not_lt.1 e3) (UInt8.not_lt.1 e2)
          subst this
          rw [if_pos e1]
    · by_cases e2 : y < x
      · rw [if_neg e1, if_pos e2] at h1; cases h1
      · have : x = y := UInt8.le_antisymm (UInt8.not_lt.1 e2) (UInt8.not_lt.1 e1)
        subst this
        rw [if_neg e1, if_neg e1] at h1
        by_cases e3 : x < z
        · rw [if_pos e3]
        · by_cases e4 : z < x
          · rw [if_neg e3, if_pos e4] at h2; cases h2
          · rw [if_neg e3, if_neg e4] at h2 ⊢
            exact cmp_trans h1 h2

/-- A text comes ahead of another one. -/
def keyC (a b : ByteArray) : Int := Lib.compareBytes a.data.toList b.data.toList
def keyLt (a b : ByteArray) : Bool := decide (keyC a b < 0)
theorem keyLt_iff {a b : ByteArray} : keyLt a b = true ↔ Lib.compareBytes a.data.toList b.data.toList = -1 := by
  unfold keyLt keyC
  rw [decide_eq_true_iff]
  rcases cmp_three a.data.toList b.data.toList with h | h | h <;> rw [h] <;> decide
theorem keyLt_irrefl (a : ByteArray) : keyLt a a = false := by
  unfold keyLt keyC
  rw [cmp_refl]
  rfl
theorem keyLt_trans {a b c : ByteArray} (h1 : keyLt a b = true) (h2 : keyLt b c = true) : keyLt a c = true := keyLt_iff.2 (cmp_trans (keyLt_iff.1 h1) (keyLt_iff.1 h2))
theorem keyLt_asymm {a b : ByteArray} (h : keyLt a b = true) : keyLt b a = false := by
  unfold keyLt keyC
  rw [cmp_swap, keyLt_iff.1 h]
  rfl
theorem keyLt_total {a b : ByteArray} (h1 : keyLt a b = false) (h2 : keyLt b a = false) : a = b := by
  unfold keyLt keyC at h1 h2
  rw [cmp_swap] at h2
  have : Lib.compareBytes a.data.toList b.data.toList = 0 := by
    rcases cmp_three a.data.toList b.data.toList with h | h | h
    · rw [h] at h1; cases h1
    · exact h
    · rw [h] at h2; cases h2
  have := cmp_zero this
  cases a; cases b
  congr 1
  exact Array.toList_inj.1 this
theorem keyLt_ntrans {a b c : ByteArray} (h1 : keyLt a b = false) (h2 : keyLt b c = false) : keyLt a c = false := by
  cases h : keyLt a c with
  | false => rfl
  | true =>
    cases h3 : keyLt b a with
    | true => rw [keyLt_trans h3 h] at h2; cases h2
    | false =>
      rw [keyLt_total h1 h3] at h
      rw [h] at h2
      cases h2

/-! ### Rows that rise by their keys -/
section
variable {α : Type} (key : α → ByteArray)
def Rises (L : List α) : Prop := L.Pairwise fun x y => keyLt (key x) (key y) = true
/-- One is put where it belongs. -/
def insK (y : α) : List α → List α
  | [] => [y]
  | x :: L => if keyLt (key x) (key y) then x :: insK y L else y :: x :: L
def sortK (L : List α) : List α := L.foldl (fun acc y => insK key y acc) []
variable {key}
theorem insK_perm (y : α) : ∀ L : List α, (insK key y L).Perm (y :: L)
  | [] => .refl _
  | x :: L => by
    unfold insK
    split
    · exact ((insK_perm y L).cons x).trans (.swap y x L)
    · exact .refl _
theorem insK_rises {y : α} : ∀ {L : List α}, Rises key L → (∀ x ∈ L, key x ≠ key y) → Rises key (insK key y L)
  | [], _, _ => List.pairwise_singleton _ _
  | x :: L, h, hn => by
    obtain ⟨h1, h2⟩ := List.pairwise_cons.1 h
    unfold insK
    cases hx : keyLt (key x) (key y) with
    | true =>
      rw [if_pos rfl]
      refine List.pairwise_cons.2 ⟨fun z hz => ?_, insK_rises h2 (fun z hz => hn z (List.mem_cons_of_mem _ hz))⟩
      rcases List.mem_cons.1 ((insK_perm y L).mem_iff.1 hz) with rfl | hz
      · exact hx
      · exact h1 z hz
    | false =>
      rw [if_neg (by simp)]
      have hy : keyLt (key y) (key x) = true := by
        cases hy : keyLt (key y) (key x) with
        | true => rfl
        | false => exact (hn x (by simp) (keyLt_total hx hy)).elim
      refine List.pairwise_cons.2 ⟨fun z hz => ?_, h⟩
      rcases List.mem_cons.1 hz with rfl | hz
      · exact hy
      · exact keyLt_trans hy (h1 z hz)
theorem sortK_snoc (L : List α) (y : α) : sortK key (L ++ [y]) = insK key y (sortK key L) := by
  unfold sortK
  rw [List.foldl_append]
  rfl
theorem sortK_perm (L : List α) : (sortK key L).Perm L := by
  have : ∀ (L acc : List α), (L.foldl (fun acc y => insK key y acc) acc).Perm (acc ++ L) := by
    intro L
    induction L with
    | nil => intro acc; simp
    | cons y L ih =>
      intro acc
      rw [List.foldl_cons]
      refine (ih _).trans (((insK_perm y acc).append_right L).trans ?_)
      exact List.perm_middle.symm
  exact (this L []).trans (by simp)
theorem sortK_rises {L : List α} (hn : (L.map key).Nodup) : Rises key (sortK key L) := by
  have : ∀ (L acc : List α), Rises key acc → ((acc ++ L).map key).Nodup → Rises key (L.foldl (fun acc y => insK key y acc) acc) := by
    intro L
    induction L with
    | nil => intro acc h _; exact h
    | cons y L ih =>
      intro acc h hn
      rw [List.foldl_cons]
      refine ih _ (insK_rises h fun x hx e => ?_) ?_
      · rw [List.map_append, List.map_cons, List.nodup_append] at hn
        exact hn.2.2 (key x) (List.mem_map_of_mem hx) (key y) (by simp) e
      · refine ((((insK_perm y acc).append_right L).trans List.perm_middle.symm).map key).nodup_iff.2 hn
  exact this L [] .nil (by simpa using hn)
/-- There is one row that rises. -/
theorem rises_unique : ∀ {L M : List α}, L.Perm M → Rises key L → Rises key M → L = M
  | [], M, hp, _, _ => (List.Perm.nil_eq hp)
  | x :: L, [], hp, _, _ => by have := hp.length_eq; simp at this
  | x :: L, y :: M, hp, hL, hM => by
    obtain ⟨l1, l2⟩ := List.pairwise_cons.1 hL
    obtain ⟨m1, m2⟩ := List.pairwise_cons.1 hM
    have hxy : x = y := by
      rcases List.mem_cons.1 (hp.mem_iff.1 (by simp : x ∈ x :: L)) with h | h
      · exact h
      · rcases List.mem_cons.1 (hp.mem_iff.2 (by simp : y ∈ y :: M)) with h' | h'
        · exact h'.symm
        · have a := m1 x h
          have b := l1 y h'
          rw [keyLt_asymm a] at b
          cases b
    subst hxy
    rw [rises_unique hp.cons_inv l2 m2]
theorem rises_nodup {L : List α} (h : Rises key L) : (L.map key).Nodup := by
  unfold List.Nodup
  rw [List.pairwise_map]
  exact h.imp fun h e => by rw [e, keyLt_irrefl] at h; cases h
theorem sortK_filter (p : α → Bool) {L : List α} (hn : (L.map key).Nodup) : sortK key (L.filter p) = (sortK key L).filter p :=
  rises_unique ((sortK_perm _).trans ((sortK_perm L).symm.filter p)) (sortK_rises (hn.sublist ((List.filter_sublist).map key))) ((sortK_rises hn).sublist List.filter_sublist)
theorem sortK_map {β : Type} {kb : β → ByteArray} (f : α → β) (hf : ∀ x, kb (f x) = key x) {L : List α} (hn : (L.map key).Nodup) : sortK kb (L.map f) = (sortK key L).map f := by
  have e : (L.map f).map kb = L.map key := by rw [List.map_map]; exact List.map_congr_left fun x _ => hf x
  refine rises_unique ((sortK_perm _).trans ((sortK_perm L).symm.map f)) (sortK_rises (by rw [e]; exact hn)) ?_
  unfold Rises
  rw [List.pairwise_map]
  exact (sortK_rises hn).imp fun h => by rw [hf, hf]; exact h
end
end Go.Proofs.YtdkcnigghcbnpaaGreat
