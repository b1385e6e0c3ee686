/- What stands under the walks, part F. -/
import Derived.Test.YtalahbmahpgkeaaSess
import Derived.RegionTactic
import Derived.ChangeAlike
import Derived.Laws.IdiomStrings
/- fit: a text, cut or filled. -/
namespace Go.Proofs.Ytalahbmahpgkeaa
set_option linter.unusedVariables false
set_option linter.unusedSimpArgs false
open Go.RowKit Go.MapKept

/-- A text's first bytes, or it and zeros. -/
def fitB (s : ByteArray) (n : Nat) : ByteArray := ⟨(s.data.toList.take n ++ List.replicate (n - s.size) 0).toArray⟩
theorem fitB_size (s : ByteArray) (n : Nat) : (fitB s n).size = n := by
  show ((s.data.toList.take n ++ List.replicate (n - s.size) 0).toArray).size = n
  have h : s.data.toList.length = s.size := by simp
  simp [List.length_take]
  omega
theorem ba_ext {a b : ByteArray} (h : a.data.toList = b.data.toList) : a = b := by
  cases a; cases b
  congr 1
  exact Array.toList_inj.1 h
theorem ba_size (a : ByteArray) : a.size = a.data.toList.length := by simp
theorem fit_law (s : ByteArray) (n M : Nat) (hM : M = min s.size n) : (s.extract 0 M ++ zeroB n).extract 0 n = fitB s n := by
  apply ba_ext
  have h : s.data.toList.length = s.size := by simp
  simp only [Go.Lib.extract_data, ByteArray.data_append, Array.toList_append, List.drop_zero, Nat.sub_zero, zeroB, fitB]
  subst hM
  rw [List.take_append, List.take_take]
  congr 1
  · by_cases h1 : n ≤ s.size
    · congr 1
      omega
    · rw [List.take_of_length_le (by omega), List.take_of_length_le (by omega)]
  · simp only [Array.toList_replicate, List.take_replicate, List.length_take]
    congr 1
    omega
theorem conv_zero (n : Nat) (w : World) : (convert 34 9 (.slice (some ⟨w.heap.size, 0, none⟩) n n)).run Try.prog (w.alloc (.cells (madeCells (Value.int .u8 0).cells (n * 1)) 5)).drew = .ok (.string (zeroB n)) (w.alloc (.cells (madeCells (Value.int .u8 0).cells (n * 1)) 5)).drew :=
  ((bytes_new w (zeroB n) 5 rfl (zeroB_size n).symm (made_zero n)).twin (twin_drew _)).conv
set_option maxRecDepth 100000 in
set_option maxHeartbeats 1000000 in
theorem fit_any (s : ByteArray) (n : Nat) (hs : s.size ≤ 9223372036854775807) (hn : n ≤ 100000) (W : World) : Calls Try.prog 24 #[.string s, .int .i64 (n : Int)] W fun e w' => e = .returned (.string (fitB s n)) ∧ Kept (fun _ => False) W w' := by
  obtain ⟨M, hM⟩ : ∃ M, M = min s.size n := ⟨_, rfl⟩
  have hmin : min (s.size : Int) (n : Int) = (M : Int) := by omega
  have hM1 : (M : Int) ≤ s.size := by omega
  have hfit := fit_law s n M hM
  have hsz : (n : Int) ≤ ((s.extract 0 M ++ zeroB n).size : Int) := by
    have : (s.extract 0 M ++ zeroB n).size = (s.extract 0 M).size + (zeroB n).size := by simp
    rw [this, zeroB_size]
    omega
  have h0 : (0 : Int) ≤ (M : Int) := by omega
  have h1 : (0 : Int) ≤ (n : Int) := by omega
  have HF := Lib.hid hfit
  generalize hZ : s.extract 0 M ++ zeroB n = Z at hsz hfit HF
  have hmk := make_bytes n hn
  have hcv := conv_zero n
  generalize madeCells (Value.int .u8 0).cells (n * 1) = C at hmk hcv
  have hno : ¬ 9223372036854775807 < min M s.size + (zeroB n).size := by rw [zeroB_size]; omega
  generalize zeroB n = z at hcv hZ hno
  clear hM hfit
  go_enter Try.func24, Try.ntmps24
  go_wp2_with fail
  go_region
  all_goals
    go_wp2_with fail
    go_ret
    exact ⟨by rw [← HF.out]; rfl, ((Kept.refl _ W).alloc _).drew⟩
end Go.Proofs.Ytalahbmahpgkeaa

/- fit and '[]byte(..)' ahead of a call, in whatever order. -/
namespace Go.Proofs.Ytalahbmahpgkeaa
set_option linter.unusedVariables false
set_option linter.unusedSimpArgs false
open Go.RowKit Go.MapKept

/-- The bytes of a text that was just turned into a row. -/
theorem bytes_row {w Wf : World} {s : ByteArray} {c : Nat} {e : TypeId} {fr : Nat × Nat} (t : Twin Wf (w.alloc (.cells (bytesRow s c) e fr))) {a : Nat} (ha : a = w.heap.size) : BytesAt Wf (some ⟨a, 0, none⟩) s.size s := by
  subst ha
  refine BytesAt.twin ?_ t
  refine ⟨rfl, fun _ ad e => by cases e; exact ⟨_, _, rfl⟩, fun i hi => ⟨w.heap.size, 0, rfl, by simp, ?_⟩⟩
  rw [Nat.zero_add]
  refine (World.cell?_alloc_mark w (bytesRow s c) e fr i).trans ?_
  have hi' : i < s.data.toList.length := by simpa using hi
  simp [bytesRow, nums, Array.getElem?_append, hi, List.getD_eq_getElem?_getD, List.getElem?_eq_getElem hi']

theorem bytes_row_d {w : World} {s : ByteArray} {c : Nat} {e : TypeId} {fr : Nat × Nat} : BytesAt (w.alloc (.cells (bytesRow s c) e fr)).drew (some ⟨w.heap.size, 0, none⟩) s.size s := bytes_row ⟨rfl, rfl, rfl, rfl⟩ rfl
/-- '[]byte(s)': the world behind it, written out. -/
theorem conv_row (w : World) (s : ByteArray) : (convert 9 34 (.string s)).run Try.prog w = .ok (.slice (some ⟨w.heap.size, 0, none⟩) s.size (grownCap w s.size 0 5)) ((w.alloc (.cells (bytesRow s (grownCap w s.size 0 5)) 5 ((bytesRow s (grownCap w s.size 0 5)).size, (bytesRow s (grownCap w s.size 0 5)).size + 1))).drew) :=
  run_bytes_of_string w 9 34 5 s Try.underlying9 Try.underlying34 Try.underlying5

/-- A call that leaves what was there, and four cells. -/
theorem fit_keep {f : Nat} {args : Array Value} {v : Value} {wr : World} {q b o : Nat} {K V : Int} {ky vl : ByteArray} (h : ∀ w, Calls Try.prog f args w fun e w' => e = .returned v ∧ Kept (fun _ => False) w w')
    (hq : q < wr.heap.size) (hb : b < wr.heap.size) (c2 : wr.cell? ⟨q, 2, none⟩ = some (.int .i64 K)) (c3 : wr.cell? ⟨q, 3, none⟩ = some (.int .i64 V)) (s1 : wr.cell? ⟨b, o + 1, none⟩ = some (.string ky)) (s2 : wr.cell? ⟨b, o + 2, none⟩ = some (.string vl)) :
    ∀ W', Kept (fun _ => False) wr W' → Calls Try.prog f args W' fun e w' => e = .returned v ∧ (w'.cell? ⟨q, 2, none⟩ = some (.int .i64 K) ∧ w'.cell? ⟨q, 3, none⟩ = some (.int .i64 V) ∧ w'.cell? ⟨b, o + 1, none⟩ = some (.string ky) ∧ w'.cell? ⟨b, o + 2, none⟩ = some (.string vl)) ∧ Kept (fun _ => False) wr w' ∧ Kept (fun _ => False) W' w' := by
  intro W' k
  refine (h W').mono ?_
  rintro e w' ⟨rfl, k'⟩
  have kk := k.trans k' (fun _ _ e => e)
  exact ⟨rfl, ⟨(kk.cell (p := ⟨q, 2, none⟩) hq (fun e => e)).trans c2, (kk.cell (p := ⟨q, 3, none⟩) hq (fun e => e)).trans c3, (kk.cell (p := ⟨b, o + 1, none⟩) hb (fun e => e)).trans s1, (kk.cell (p := ⟨b, o + 2, none⟩) hb (fun e => e)).trans s2⟩, kk, k'⟩
/-- The world behind '[]byte(s)', under a name of its own. -/
theorem conv_abs {K : World → Prop} {w : World} {s : ByteArray} {c : Nat} {e : TypeId} {fr : Nat × Nat} (h : ∀ w', Kept (fun _ => False) w w' → BytesAt w' (some ⟨w.heap.size, 0, none⟩) s.size s → K w') : K (w.alloc (.cells (bytesRow s c) e fr)) :=
  h _ (Kept.one_alloc w _) (bytes_row (Twin.refl _) rfl)
theorem conv_absD {K : World → Prop} {w : World} {s : ByteArray} {c : Nat} {e : TypeId} {fr : Nat × Nat} (h : ∀ w', Kept (fun _ => False) w w' → BytesAt w' (some ⟨w.heap.size, 0, none⟩) s.size s → K w') : K (w.alloc (.cells (bytesRow s c) e fr)).drew :=
  h _ (Kept.one_alloc w _).drew bytes_row_d
end Go.Proofs.Ytalahbmahpgkeaa
