/- LruTypes, the plain law: which indexes a list of M entries keeps behind N puts: the last ones, unlike, of all. Plain Lean. -/
import Derived.Test.YteiilokhkpaoeaaModel
namespace Go.Proofs.Yteiilokhkpaoeaa
set_option linter.unusedVariables false
set_option linter.unusedSimpArgs false
open Go.RowKit Go.MapKept

/-- The indexes below k whose key does not come again below k, rising. -/
def lastS (z : Nat → Int) : Nat → List Nat
  | 0 => []
  | k + 1 => (lastS z k).filter (fun i => decide (z i ≠ z k)) ++ [k]
/-- The last M of a row. -/
def lastM (M : Nat) (l : List Nat) : List Nat := l.drop (l.length - M)
theorem lastS_lt (z : Nat → Int) : ∀ k, ∀ i ∈ lastS z k, i < k
  | 0, i, h => by cases h
  | k + 1, i, h => by
    simp only [lastS, List.mem_append, List.mem_filter, List.mem_singleton] at h
    rcases h with ⟨h, _⟩ | rfl
    · have := lastS_lt z k i h; omega
    · omega
theorem lastS_len (z : Nat → Int) : ∀ k, (lastS z k).length ≤ k
  | 0 => Nat.le_refl _
  | k + 1 => by
    have h1 := lastS_len z k
    have h2 := List.length_filter_le (fun i => decide (z i ≠ z k)) (lastS z k)
    simp only [lastS, List.length_append, List.length_cons, List.length_nil]
    omega
theorem lastS_keys (z : Nat → Int) : ∀ k, ((lastS z k).map z).Nodup
  | 0 => by simp [lastS]
  | k + 1 => by
    have ih := lastS_keys z k
    have h1 : (((lastS z k).filter (fun i => decide (z i ≠ z k))).map z).Nodup := ih.sublist (List.filter_sublist.map _)
    simp only [lastS, List.map_append, List.map_cons, List.map_nil]
    refine List.nodup_append.2 ⟨h1, by simp, ?_⟩
    rintro a ha b hb rfl
    obtain ⟨i, hi, rfl⟩ := List.mem_map.1 ha
    have := (List.mem_filter.1 hi).2
    simp at this hb
    exact this hb
theorem lastS_mem (z : Nat → Int) : ∀ k i, i ∈ lastS z k ↔ i < k ∧ ∀ j, i < j → j < k → z j ≠ z i
  | 0, i => by simp [lastS]
  | k + 1, i => by
    simp only [lastS, List.mem_append, List.mem_filter, List.mem_singleton, lastS_mem z k i, decide_eq_true_eq]
    constructor
    · rintro (⟨⟨h1, h2⟩, h3⟩ | rfl)
      · refine ⟨by omega, fun j hj hk => ?_⟩
        by_cases e : j = k
        · subst e; exact fun e => h3 e.symm
        · exact h2 j hj (by omega)
      · exact ⟨by omega, fun j hj hk => by omega⟩
    · rintro ⟨h1, h2⟩
      by_cases e : i = k
      · exact .inr e
      · exact .inl ⟨⟨by omega, fun j hj hk => h2 j hj (by omega)⟩, fun e' => h2 k (by omega) (by omega) e'.symm⟩
theorem lastS_sorted (z : Nat → Int) : ∀ k, (lastS z k).Pairwise (· < ·)
  | 0 => by simp [lastS]
  | k + 1 => by
    simp only [lastS]
    refine List.pairwise_append.2 ⟨(lastS_sorted z k).sublist List.filter_sublist, by simp, ?_⟩
    intro a ha b hb
    have := lastS_lt z k a (List.mem_filter.1 ha).1
    simp at hb
    omega

/-- What a put makes of the indexes. -/
def putS (z : Nat → Int) (M k : Nat) (l : List Nat) : List Nat :=
  if z k ∈ l.map z then l.filter (fun i => decide (z i ≠ z k)) ++ [k] else if l.length + 1 ≤ M then l ++ [k] else l.tail ++ [k]

theorem filter_none {z : Nat → Int} {c : Int} {l : List Nat} (h : c ∉ l.map z) : l.filter (fun i => decide (z i ≠ c)) = l := by
  refine List.filter_eq_self.2 fun i hi => ?_
  simp only [decide_eq_true_eq]
  rintro rfl
  exact h (List.mem_map_of_mem hi)
theorem filter_one {z : Nat → Int} {c : Int} {l : List Nat} (hn : (l.map z).Nodup) (h : c ∈ l.map z) : (l.filter (fun i => decide (z i ≠ c))).length + 1 = l.length := by
  induction l with
  | nil => cases h
  | cons a l ih =>
    simp only [List.map_cons, List.nodup_cons] at hn
    by_cases e : z a = c
    · subst e
      rw [List.filter_cons_of_neg (by simp), filter_none hn.1]
      simp
    · rw [List.filter_cons_of_pos (by simpa using e)]
      have : c ∈ l.map z := by
        rcases List.mem_cons.1 h with h | h
        · exact (e h.symm).elim
        · exact h
      have := ih hn.2 this
      simp only [List.length_cons]
      omega
theorem lastM_all {M : Nat} {l : List Nat} (h : l.length ≤ M) : lastM M l = l := by
  unfold lastM
  rw [show l.length - M = 0 by omega]
  rfl
theorem lastM_app {M : Nat} {a b : List Nat} (h : b.length = M) : lastM M (a ++ b) = b := by
  unfold lastM
  rw [List.length_append, show a.length + b.length - M = a.length by omega]
  simp
theorem lastM_len {M : Nat} {l : List Nat} : (lastM M l).length = min l.length M := by
  unfold lastM
  rw [List.length_drop]
  omega
theorem lastM_split (M : Nat) (l : List Nat) : ∃ a, l = a ++ lastM M l ∧ (a = [] ∨ (lastM M l).length = M) := by
  refine ⟨l.take (l.length - M), (List.take_append_drop _ _).symm, ?_⟩
  by_cases h : l.length ≤ M
  · left
    rw [show l.length - M = 0 by omega]
    rfl
  · right
    rw [lastM_len]
    omega

theorem putS_last (z : Nat → Int) {M : Nat} (hM : 1 ≤ M) (k : Nat) : putS z M k (lastM M (lastS z k)) = lastM M (lastS z (k + 1)) := by
  obtain ⟨a, ha, hA⟩ := lastM_split M (lastS z k)
  have hn := lastS_keys z k
  have hlen := lastM_len (M := M) (l := lastS z k)
  generalize lastM M (lastS z k) = e at *
  simp only [lastS]
  generalize lastS z k = s at *
  subst ha
  rw [List.map_append, List.nodup_append] at hn
  obtain ⟨hna, hne, hdis⟩ := hn
  rw [List.filter_append]
  unfold putS
  by_cases h : z k ∈ e.map z
  · rw [if_pos h]
    have ha' : a.filter (fun i => decide (z i ≠ z k)) = a := filter_none (fun h' => hdis _ h' _ h rfl)
    have h1 := filter_one hne h
    rw [ha', List.append_assoc]
    rcases hA with rfl | hA
    · rw [List.nil_append, lastM_all]
      simp only [List.length_append, List.length_cons, List.length_nil] at hlen ⊢
      omega
    · rw [lastM_app]
      simp only [List.length_append, List.length_cons, List.length_nil]
      omega
  · rw [if_neg h, filter_none h]
    rcases hA with rfl | hA
    · simp only [List.filter_nil, List.nil_append, List.length_append, List.length_nil] at hlen ⊢
      by_cases hr : e.length + 1 ≤ M
      · rw [if_pos hr, lastM_all (by simpa using hr)]
      · rw [if_neg hr]
        cases e with
        | nil => simp at hr; omega
        | cons x e =>
          simp only [List.length_cons] at hr hlen
          rw [List.tail_cons, List.cons_append, ← List.singleton_append (l := e ++ [k]), lastM_app]
          simp
          omega
    · rw [if_neg (by omega)]
      cases e with
      | nil => simp at hA; omega
      | cons x e =>
        simp only [List.length_cons] at hA
        rw [List.tail_cons, show a.filter (fun i => decide (z i ≠ z k)) ++ (x :: e) ++ [k] = (a.filter (fun i => decide (z i ≠ z k)) ++ [x]) ++ (e ++ [k]) by simp, lastM_app]
        simp
        omega

/-- The indexes of i and above that stay. -/
def fromS (z : Nat → Int) (N i : Nat) : List Nat := (lastS z N).filter fun j => decide (i ≤ j)
theorem fromS_top (z : Nat → Int) (N : Nat) : fromS z N N = [] := by
  refine List.filter_eq_nil_iff.2 fun j hj => ?_
  have := lastS_lt z N j hj
  simp
  omega
theorem fromS_zero (z : Nat → Int) (N : Nat) : fromS z N 0 = lastS z N := List.filter_eq_self.2 (by simp)
theorem filter_step {l : List Nat} (hs : l.Pairwise (· < ·)) (i : Nat) : l.filter (fun j => decide (i ≤ j)) = (if i ∈ l then [i] else []) ++ l.filter (fun j => decide (i + 1 ≤ j)) := by
  induction l with
  | nil => simp
  | cons a l ih =>
    rw [List.pairwise_cons] at hs
    have ih := ih hs.2
    by_cases e : a = i
    · subst e
      have hni : a ∉ l := fun h => by have := hs.1 a h; omega
      rw [if_neg hni] at ih
      rw [List.filter_cons_of_pos (by simp), List.filter_cons_of_neg (by simp), ih]
      simp
    · by_cases hlt : a < i
      · rw [List.filter_cons_of_neg (by simp; omega), List.filter_cons_of_neg (by simp; omega), ih]
        have : i ∈ a :: l ↔ i ∈ l := by simp [List.mem_cons]; intro h; omega
        simp only [this]
      · have hni : i ∉ a :: l := by
          intro h
          rcases List.mem_cons.1 h with h | h
          · omega
          · have := hs.1 i h; omega
        have hni' : i ∉ l := fun h => hni (List.mem_cons_of_mem _ h)
        rw [if_neg hni'] at ih
        rw [if_neg hni, List.filter_cons_of_pos (by simp; omega), List.filter_cons_of_pos (by simp; omega), ih]
        simp
theorem fromS_step (z : Nat → Int) (N i : Nat) : fromS z N i = (if i ∈ lastS z N then [i] else []) ++ fromS z N (i + 1) := filter_step (lastS_sorted z N) i
theorem fromS_full {z : Nat → Int} {N i M : Nat} (h : (fromS z N i).length = M) : fromS z N i = lastM M (lastS z N) := by
  have e : lastS z N = (lastS z N).filter (fun j => !decide (i ≤ j)) ++ fromS z N i := by
    have hs := lastS_sorted z N
    unfold fromS
    generalize lastS z N = l at hs ⊢
    clear h
    induction l with
    | nil => rfl
    | cons a l ih =>
      rw [List.pairwise_cons] at hs
      by_cases hlt : i ≤ a
      · have h0 : ∀ b ∈ l, i ≤ b := fun b hb => by have := hs.1 b hb; omega
        have h1 : l.filter (fun j => !decide (i ≤ j)) = [] := List.filter_eq_nil_iff.2 (fun b hb => by have := h0 b hb; simpa using this)
        have h2 : l.filter (fun j => decide (i ≤ j)) = l := List.filter_eq_self.2 (fun b hb => by simpa using h0 b hb)
        rw [List.filter_cons_of_neg (by simpa using hlt), List.filter_cons_of_pos (by simpa using hlt), h1, h2]
        rfl
      · rw [List.filter_cons_of_pos (by simpa using hlt), List.filter_cons_of_neg (by simpa using hlt), List.cons_append]
        rw [← ih hs.2]
  conv => rhs; rw [e]
  rw [lastM_app h]
end Go.Proofs.Yteiilokhkpaoeaa
