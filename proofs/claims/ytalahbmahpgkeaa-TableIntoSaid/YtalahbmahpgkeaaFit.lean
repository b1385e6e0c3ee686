/- fit: a text, cut or filled. -/
import Derived.Test.YtalahbmahpgkeaaSess
import Derived.RegionTactic
import Derived.ChangeAlike
namespace Go.Proofs.Ytalahbmahpgkeaa
set_option linter.unusedVariables false
set_option linter.unusedSimpArgs false
open Go.RowKit Go.MapKept

/-- A text's first bytes, or it and zeros. -/
def fitB (s : ByteArray) (n : Nat) : ByteArray := ⟨(s.data.toList.take n ++ List.replicate (n - s.size) 0).toArray⟩
theorem fitB_size (s : ByteArray) (n : Nat) : (fitB s n).size = n := by
  show ((s.data.toList.take n ++ List.replicate (n - s.size) 0).toArray).size = n
  have h : s.data.toList.length = s.size := by simp
  simp [List.length_take]
  omega
theorem ba_ext {a b : ByteArray} (h : a.data.toList = b.data.toList) : a = b := by
  cases a; cases b
  congr 1
  exact Array.toList_inj.1 h
theorem ba_size (a : ByteArray) : a.size = a.data.toList.length := by simp
theorem fit_law (s : ByteArray) (n M : Nat) (hM : M = min s.size n) : (s.extract 0 M ++ zeroB n).extract 0 n = fitB s n := by
  apply ba_ext
  have h : s.data.toList.length = s.size := by simp
  simp only [Go.Lib.extract_data, ByteArray.data_append, Array.toList_append, List.drop_zero, Nat.sub_zero, zeroB, fitB]
  subst hM
  rw [List.take_append, List.take_take]
  congr 1
  · by_cases h1 : n ≤ s.size
    · congr 1
      omega
    · rw [List.take_of_length_le (by omega), List.take_of_length_le (by omega)]
  · simp only [Array.toList_replicate, List.take_replicate, List.length_take]
    congr 1
    omega
theorem conv_zero (n : Nat) (w : World) : (convert 34 9 (.slice (some ⟨w.heap.size, 0, none⟩) n n)).run Try.prog (w.alloc (.cells (madeCells (Value.int .u8 0).cells (n * 1)) 5)).drew = .ok (.string (zeroB n)) (w.alloc (.cells (madeCells (Value.int .u8 0).cells (n * 1)) 5)).drew :=
  ((bytes_new w (zeroB n) 5 rfl (zeroB_size n).symm (made_zero n)).twin (twin_drew _)).conv
set_option maxRecDepth 100000 in
set_option maxHeartbeats 1000000 in
theorem fit_any (s : ByteArray) (n : Nat) (hs : s.size ≤ 9223372036854775807) (hn : n ≤ 100000) (W : World) : Calls Try.prog 24 #[.string s, .int .i64 (n : Int)] W fun e w' => e = .returned (.string (fitB s n)) ∧ Kept (fun _ => False) W w' := by
  obtain ⟨M, hM⟩ : ∃ M, M = min s.size n := ⟨_, rfl⟩
  have hmin : min (s.size : Int) (n : Int) = (M : Int) := by omega
  have hM1 : (M : Int) ≤ s.size := by omega
  have hfit := fit_law s n M hM
  have hsz : (n : Int) ≤ ((s.extract 0 M ++ zeroB n).size : Int) := by
    have : (s.extract 0 M ++ zeroB n).size = (s.extract 0 M).size + (zeroB n).size := by simp
    rw [this, zeroB_size]
    omega
  have h0 : (0 : Int) ≤ (M : Int) := by omega
  have h1 : (0 : Int) ≤ (n : Int) := by omega
  have HF := Lib.hid hfit
  generalize hZ : s.extract 0 M ++ zeroB n = Z at hsz hfit HF
  have hmk := make_bytes n hn
  have hcv := conv_zero n
  generalize madeCells (Value.int .u8 0).cells (n * 1) = C at hmk hcv
  have hno : ¬ 9223372036854775807 < min M s.size + (zeroB n).size := by rw [zeroB_size]; omega
  generalize zeroB n = z at hcv hZ hno
  clear hM hfit
  go_enter Try.func24, Try.ntmps24
  go_wp2_with fail
  go_region
  all_goals
    go_wp2_with fail
    go_ret
    exact ⟨by rw [← HF.out]; rfl, ((Kept.refl _ W).alloc _).drew⟩
end Go.Proofs.Ytalahbmahpgkeaa
