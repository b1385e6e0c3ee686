/- swingbridgelaw09.shown answers true, and leaves what was there. -/
import Derived.Test.YteiilokhkpaoeaaLruSI
namespace Go.Proofs.Yteiilokhkpaoeaa
set_option linter.unusedVariables false
set_option linter.unusedSimpArgs false
open Go.RowKit Go.MapKept

theorem key_ne {a b : UInt8} (h : a ≠ b) : (⟨#[a]⟩ : ByteArray) ≠ ⟨#[b]⟩ := by
  intro e
  injection e with e
  simp at e
  exact h e

set_option maxRecDepth 100000 in
set_option maxHeartbeats 1000000 in
theorem shown9 (w : World) : Calls Try.prog 11 #[] w fun e w' => e = .returned (.bool true) ∧ Kept (fun _ => False) w w' := by
  go_enter Try.func11, Try.ntmps11
  go_wp2_with fail
  refine (SI.new_own 2 w).mono ?_
  rintro e w1 ⟨bl, bm, rfl, h1, k1, gl, gm⟩
  go_wp2_with fail
  refine (SI.put_room (most := 2) h1 (by simp) (by simp)).mono ?_
  rintro e w2 ⟨rfl, h2, k2, z2⟩
  have k2 := k1.own k2 (fp_ge gl gm (by simp))
  have ga := k1.size
  clear h1 k1 z2
  generalize w1.heap.size = ba at h2 ga
  simp only [List.nil_append] at h2
  go_wp2_with fail
  refine (SI.put_room (most := 2) h2 (by simp [key_ne]) (by simp)).mono ?_
  rintro e w3 ⟨rfl, h3, k3, z3⟩
  have k3 := k2.own k3 (fp_ge gl gm (by simpa using ga))
  have gb := k2.size
  clear h2 k2 z3
  generalize w2.heap.size = bb at h3 gb
  simp only [List.cons_append, List.nil_append] at h3
  go_wp2_with fail
  refine (SI.get_hit (l1 := []) h3).mono ?_
  rintro e w4 ⟨rfl, h4, k4, z4⟩
  have k4 := k3.own k4 (fp_ge gl gm (by simpa using ⟨ga, gb⟩))
  clear h3 k3 z4
  simp only [List.cons_append, List.nil_append] at h4
  unfold vSI
  go_wp2_with fail
  refine (SI.put_full (most := 2) h4 (by simp [key_ne]) (by simp)).mono ?_
  rintro e w5 ⟨rfl, h5, k5, z5⟩
  have k5 := k4.own k5 (fp_ge gl gm (by simpa using ⟨gb, ga⟩))
  have gc := k4.size
  clear h4 k4 z5
  generalize w4.heap.size = bc at h5 gc
  simp only [List.cons_append, List.nil_append] at h5
  go_wp2_with fail
  refine (SI.peek_miss h5 (by simp [key_ne])).mono ?_
  rintro e w6 ⟨rfl, rfl⟩
  go_wp2_with fail
  refine (SI.oldest_cons h5).mono ?_
  rintro e w6 ⟨rfl, t6⟩
  have h6 := h5.twin t6
  have k6 := k5.twin t6
  clear h5 k5 t6
  go_wp2_with fail
  refine (SI.len_any h6).mono ?_
  rintro e w7 ⟨rfl, rfl⟩
  simp only [List.length_cons, List.length_nil]
  go_wp2_with fail
  go_ret
  exact ⟨rfl, k6.none⟩
end Go.Proofs.Yteiilokhkpaoeaa
