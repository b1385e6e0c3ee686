/- Which texts are names: one to sixteen bytes, each a letter, a digit or an underscore; that strings.ContainsFunc's runes say the same as the bytes. Plain Lean. -/
import Derived.Shelf.GgClosure.StringsIndexFuncTop
import Derived.Lib.DecodeN
namespace Go.Proofs.YtdkcnigghcbnpaaGreat
set_option linter.unusedVariables false
set_option linter.unusedSimpArgs false
open Go.RowKit

/-- May a byte (a rune) stand in a name? -/
def clsB (b : Nat) : Bool := decide (b = 95) || (decide (48 ≤ b) && decide (b ≤ 57)) || (decide (65 ≤ b) && decide (b ≤ 90)) || (decide (97 ≤ b) && decide (b ≤ 122))
/-- All bytes from a place on. -/
def clsAll (s : ByteArray) : Prop := ∀ i, i < s.size → clsB (s.get! i).toNat = true
/-- May a text be a name? -/
def nameB (s : ByteArray) : Bool := decide (1 ≤ s.size) && decide (s.size ≤ 16) && s.data.toList.all fun b => clsB b.toNat

theorem get_bang (s : ByteArray) (i : Nat) (h : i < s.size) : s.get! i = s[i] := by
  show s.data[i]! = _
  rw [getElem!_pos s.data i h]
  rfl
theorem clsAll_iff (s : ByteArray) : (s.data.toList.all fun b => clsB b.toNat) = true ↔ clsAll s := by
  unfold clsAll
  rw [List.all_eq_true]
  constructor
  · intro h i hi
    refine h _ ?_
    show s.data[i]! ∈ s.data.toList
    rw [getElem!_pos s.data i hi]
    simp
  · intro h b hb
    obtain ⟨i, hi, e⟩ := List.getElem_of_mem hb
    have hi' : i < s.size := by simpa using hi
    have := h i hi'
    rw [show s.get! i = b by rw [← e]; show s.data[i]! = _; rw [getElem!_pos s.data i hi']; simp] at this
    exact this
theorem cls_high {r : Nat} (h : 128 ≤ r) : clsB r = false := by
  unfold clsB
  simp
  omega
theorem decodeN_high (n b0 b1 b2 b3 : Nat) (h : ¬ b0 < 128) : 128 ≤ (Lib.decodeN n b0 b1 b2 b3).1 := by
  unfold Lib.decodeN
  rw [if_neg h]
  repeat' split
  all_goals (simp only []; omega)
theorem idx_from (s : ByteArray) : ∀ (f pos : Nat), s.size ≤ pos + f → (Lib.idxFuncFrom (fun r => !clsB r) true s f pos = -1 ↔ ∀ i, pos ≤ i → i < s.size → clsB (s.get! i).toNat = true)
  | 0, pos, h => by
    simp only [Lib.idxFuncFrom, true_iff]
    intro i h1 h2
    omega
  | f + 1, pos, h => by
    unfold Lib.idxFuncFrom
    by_cases hp : pos < s.size
    · rw [if_pos hp, Lib.decode_at]
      by_cases hb : (s.get! pos).toNat < 128
      · have hd : Lib.decodeN (s.size - pos) (s.get! pos).toNat (s.get! (pos + 1)).toNat (s.get! (pos + 2)).toNat (s.get! (pos + 3)).toNat = ((s.get! pos).toNat, 1) := by unfold Lib.decodeN; rw [if_pos hb]
        rw [hd]
        by_cases hc : clsB (s.get! pos).toNat = true
        · simp only [hc, Bool.not_true, Bool.false_eq_true, if_false]
          rw [idx_from s f (pos + 1) (by omega)]
          constructor
          · intro h1 i h2 h3
            by_cases e : i = pos
            · rw [e]; exact hc
            · exact h1 i (by omega) h3
          · exact fun h1 i h2 h3 => h1 i (by omega) h3
        · have hc' : clsB (s.get! pos).toNat = false := by simpa using hc
          simp only [hc', Bool.not_false, if_true]
          constructor
          · intro h1; omega
          · intro h1; exact (hc (h1 pos (Nat.le_refl _) hp)).elim
      · have hd := decodeN_high (s.size - pos) (s.get! pos).toNat (s.get! (pos + 1)).toNat (s.get! (pos + 2)).toNat (s.get! (pos + 3)).toNat hb
        generalize Lib.decodeN (s.size - pos) (s.get! pos).toNat (s.get! (pos + 1)).toNat (s.get! (pos + 2)).toNat (s.get! (pos + 3)).toNat = d at hd ⊢
        simp only [cls_high hd, Bool.not_false, if_true]
        constructor
        · intro h1; omega
        · intro h1
          have := h1 pos (Nat.le_refl _) hp
          rw [cls_high (by omega)] at this
          cases this
    · rw [if_neg hp]
      simp only [true_iff]
      intro i h1 h2
      omega
/-- strings.ContainsFunc's answer, in bytes. -/
theorem contains_other (s : ByteArray) : decide (0 ≤ Lib.idxFunc (fun r => !clsB r) true s) = !(s.data.toList.all fun b => clsB b.toNat) := by
  have h := idx_from s s.size 0 (by omega)
  have hr := Lib.idxFunc_range (fun r => !clsB r) true s
  unfold Lib.idxFunc at hr ⊢
  by_cases hc : (s.data.toList.all fun b => clsB b.toNat) = true
  · rw [hc, h.2 (fun i _ hi => (clsAll_iff s).1 hc i hi)]
    decide
  · have hne : Lib.idxFuncFrom (fun r => !clsB r) true s s.size 0 ≠ -1 := fun e => hc ((clsAll_iff s).2 (fun i hi => h.1 e i (Nat.zero_le _) hi))
    have hc' : (s.data.toList.all fun b => clsB b.toNat) = false := by simpa using hc
    rw [hc']
    simp
    omega
end Go.Proofs.YtdkcnigghcbnpaaGreat
