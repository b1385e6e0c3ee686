/- TableMaps, walked. -/
import Derived.Test.YtalahbmahpgkeaaShown
import Derived.BigQuiet
namespace Go.Proofs.Ytalahbmahpgkeaa
set_option linter.unusedVariables false
set_option linter.unusedSimpArgs false
open Go.RowKit Go.MapKept

section
variable {W : World}
set_option maxRecDepth 100000 in
set_option maxHeartbeats 2000000 in
theorem tableMaps_wrong (m : TM) (hs : m.nm.size ≤ 9223372036854775807) (hr : m.right = false) : Calls Try.prog 3 #[m.v] W fun e w' => e = .returned (.bool true) ∧ Kept (fun _ => False) W w' := by
  obtain ⟨nm, kd, ks, vs, mx⟩ := m
  simp only [TM.v] at *
  have k0 := Kept.one_alloc W (.cells #[.string nm, .int .i64 kd, .int .i64 ks, .int .i64 vs, .int .i64 mx] 23)
  have K0 := Lib.hid k0
  have HR := Lib.hid hr
  clear k0 hr
  go_enter Try.func3, Try.ntmps3
  go_wp2_with fail
  generalize hw0 : W.alloc (.cells #[.string nm, .int .i64 kd, .int .i64 ks, .int .i64 vs, .int .i64 mx] 23) = W0 at *
  have hz : W0.heap[W.heap.size]? = some (.cells #[.string nm, .int .i64 kd, .int .i64 ks, .int .i64 vs, .int .i64 mx] 23 (0, 0)) := by rw [← hw0]; exact heap_alloc_new W _
  have hlt : W.heap.size < W0.heap.size := by rw [← hw0]; simp
  clear hw0
  generalize hq : W.heap.size = q at *
  have HQ := Lib.hid hq
  clear hq
  have CELLS : ∀ w1, Kept (fun _ => False) W0 w1 → w1.cell? ⟨q, 0, none⟩ = some (.string nm) ∧ w1.cell? ⟨q, 1, none⟩ = some (.int .i64 kd) ∧ w1.cell? ⟨q, 2, none⟩ = some (.int .i64 ks) ∧ w1.cell? ⟨q, 3, none⟩ = some (.int .i64 vs) ∧ w1.cell? ⟨q, 4, none⟩ = some (.int .i64 mx) := fun w1 k1 =>
    ⟨(k1.cell (p := ⟨q, 0, none⟩) hlt (fun e => e)).trans (by simp [World.cell?, hz]), (k1.cell (p := ⟨q, 1, none⟩) hlt (fun e => e)).trans (by simp [World.cell?, hz]), (k1.cell (p := ⟨q, 2, none⟩) hlt (fun e => e)).trans (by simp [World.cell?, hz]), (k1.cell (p := ⟨q, 3, none⟩) hlt (fun e => e)).trans (by simp [World.cell?, hz]), (k1.cell (p := ⟨q, 4, none⟩) hlt (fun e => e)).trans (by simp [World.cell?, hz])⟩
  have HC := Lib.hid CELLS
  clear CELLS hz hlt
  refine (shown_any W0).mono ?_
  rintro e w1 ⟨rfl, k1⟩
  obtain ⟨c0, c1, c2, c3, c4⟩ := HC.out w1 k1
  have K1 := Lib.hid k1
  clear k1
  go_wp2_with fail
  refine (new_any ⟨nm, kd, ks, vs, mx⟩).mono ?_
  rintro e w2 (⟨-, rfl, k2⟩ | ⟨hf, -⟩)
  rotate_left
  · rw [HR.out] at hf
    cases hf
  clear c0 c1 c2 c3 c4
  have k2' := K1.out.trans k2 (fun _ _ e => e)
  obtain ⟨c0, c1, c2, c3, c4⟩ := HC.out w2 k2'
  have K2 := Lib.hid k2'
  clear k2 k2'
  go_wp2_with fail
  refine (rright_any nm hs kd ks vs mx w2).mono ?_
  rintro e w3 ⟨rfl, k3⟩
  rw [show rightB nm kd ks vs mx = false from HR.out]
  clear c0 c1 c2 c3 c4
  have k3' := K2.out.trans k3 (fun _ _ e => e)
  obtain ⟨c0, c1, c2, c3, c4⟩ := HC.out w3 k3'
  have K3 := Lib.hid k3'
  clear k3 k3'
  go_wp2_with fail
  refine (right_any nm kd ks vs mx w3).mono ?_
  rintro e w4 ⟨rfl, k4⟩
  rw [show rightB nm kd ks vs mx = false from HR.out]
  clear c0 c1 c2 c3 c4
  have K4 := Lib.hid (K3.out.trans k4 (fun _ _ e => e))
  clear k4
  go_wp2_with fail
  go_ret
  exact ⟨rfl, K0.out.trans K4.out (fun _ _ e => e)⟩

theorem eqMap (nm : ByteArray) (kd ks vs mx : Int) (w : World) : (binOp .eql 23 (.agg #[.string nm, .int .i64 kd, .int .i64 ks, .int .i64 vs, .int .i64 mx]) (.agg #[.string nm, .int .i64 kd, .int .i64 ks, .int .i64 vs, .int .i64 mx])).run Try.prog w = .ok (.bool true) w := by
  have u3 := Try.underlying3
  have a3 := Try.isAgg3
  have z3 := Try.sizeOf3
  have u9 := Try.underlying9
  have a9 := Try.isAgg9
  have z9 := Try.sizeOf9
  have hS : Try.prog.underlying 23 = some (.struct (Try.prog.fieldsOf 23)) := by kernel_rfl
  have hp : Try.prog.stoodInHeld 23 = false := by kernel_rfl
  rw [run_eql_struct, show (10000 : Nat) = 9999 + 1 from rfl, run_equalIn_agg w 9999 23 _ _ hS hp]
  simp only [Program.fieldsOf, Try.underlying23]
  go_simp
theorem newE_len {W w : World} {m : TM} {bt : Nat} {iv : Value} {E : List En} {F : Nat → Prop} (hE : NewE m E) (h : Made W m bt iv E F w) : (E.length : Int) = if m.kd = 1 then m.mx else 0 := by
  have hr := (rightB_iff _ _ _ _ _).1 h.1.right
  split
  · rename_i h1
    have := congrArg List.length (h.1.arr h1)
    simp only [List.length_map, List.length_range] at this
    omega
  · rename_i h1
    rw [hE.1 h1]
    rfl

set_option maxRecDepth 100000 in
set_option maxHeartbeats 4000000 in
theorem tableMaps_right (m : TM) (hs : m.nm.size ≤ 9223372036854775807) (hr : m.right = true) : Calls Try.prog 3 #[m.v] W fun e w' => e = .returned (.bool true) ∧ Kept (fun _ => False) W w' := by
  obtain ⟨nm, kd, ks, vs, mx⟩ := m
  simp only [TM.v] at *
  have k0 := Kept.one_alloc W (.cells #[.string nm, .int .i64 kd, .int .i64 ks, .int .i64 vs, .int .i64 mx] 23)
  have K0 := Lib.hid k0
  have HR := Lib.hid hr
  have hgd : Try.prog.eqGuardType Try.prog.depth 23 = false := by kernel_rfl
  have heq := eqMap nm kd ks vs mx
  clear k0 hr
  go_enter Try.func3, Try.ntmps3
  go_wp2_with fail
  generalize hw0 : W.alloc (.cells #[.string nm, .int .i64 kd, .int .i64 ks, .int .i64 vs, .int .i64 mx] 23) = W0 at *
  have hz : W0.heap[W.heap.size]? = some (.cells #[.string nm, .int .i64 kd, .int .i64 ks, .int .i64 vs, .int .i64 mx] 23 (0, 0)) := by rw [← hw0]; exact heap_alloc_new W _
  have hlt : W.heap.size < W0.heap.size := by rw [← hw0]; simp
  clear hw0
  generalize hq : W.heap.size = q at *
  have HQ := Lib.hid hq
  clear hq
  have CELLS : ∀ w1, Kept (fun _ => False) W0 w1 → w1.cell? ⟨q, 0, none⟩ = some (.string nm) ∧ w1.cell? ⟨q, 1, none⟩ = some (.int .i64 kd) ∧ w1.cell? ⟨q, 2, none⟩ = some (.int .i64 ks) ∧ w1.cell? ⟨q, 3, none⟩ = some (.int .i64 vs) ∧ w1.cell? ⟨q, 4, none⟩ = some (.int .i64 mx) := fun w1 k1 =>
    ⟨(k1.cell (p := ⟨q, 0, none⟩) hlt (fun e => e)).trans (by simp [World.cell?, hz]), (k1.cell (p := ⟨q, 1, none⟩) hlt (fun e => e)).trans (by simp [World.cell?, hz]), (k1.cell (p := ⟨q, 2, none⟩) hlt (fun e => e)).trans (by simp [World.cell?, hz]), (k1.cell (p := ⟨q, 3, none⟩) hlt (fun e => e)).trans (by simp [World.cell?, hz]), (k1.cell (p := ⟨q, 4, none⟩) hlt (fun e => e)).trans (by simp [World.cell?, hz])⟩
  have HC := Lib.hid CELLS
  clear CELLS hz hlt
  refine (shown_any W0).mono ?_
  rintro e w1 ⟨rfl, k1⟩
  obtain ⟨c0, c1, c2, c3, c4⟩ := HC.out w1 k1
  have K1 := Lib.hid k1
  clear k1
  go_wp2_with fail
  refine (new_any ⟨nm, kd, ks, vs, mx⟩).mono ?_
  rintro e w2 (⟨hf, -⟩ | ⟨-, bt, iv, F, E, rfl, hE, hm⟩)
  · rw [HR.out] at hf
    cases hf
  clear c0 c1 c2 c3 c4
  have k2' := K1.out.trans hm.2.2 (fun _ _ e => e)
  obtain ⟨c0, c1, c2, c3, c4⟩ := HC.out w2 k2'
  have K2 := Lib.hid k2'
  have HL := Lib.hid (newE_len hE hm)
  have HM := Lib.hid hm
  clear k2' hE hm
  go_wp2_with fail
  refine (rright_any nm hs kd ks vs mx w2).mono ?_
  rintro e w3 ⟨rfl, k3⟩
  rw [show rightB nm kd ks vs mx = true from HR.out]
  clear c0 c1 c2 c3 c4
  have HM3 := Lib.hid (HM.out.kept k3)
  have k3' := K2.out.trans k3 (fun _ _ e => e)
  obtain ⟨c0, c1, c2, c3, c4⟩ := HC.out w3 k3'
  have K3 := Lib.hid k3'
  clear k3 k3'
  go_wp2_with fail
  refine (right_any nm kd ks vs mx w3).mono ?_
  rintro e w4 ⟨rfl, k4⟩
  rw [show rightB nm kd ks vs mx = true from HR.out]
  clear c0 c1 c2 c3 c4
  have HM4 := Lib.hid (HM3.out.kept k4)
  have k4' := K3.out.trans k4 (fun _ _ e => e)
  obtain ⟨c0, c1, c2, c3, c4⟩ := HC.out w4 k4'
  have K4 := Lib.hid k4'
  clear k4 k4'
  have LEN : ∀ W', Kept (fun _ => False) w4 W' → Calls Try.prog 17 #[.pointer (some ⟨bt, 0, none⟩)] W' fun e w' => e = .returned (.int .i64 (if kd = 1 then mx else 0)) ∧ (w'.cell? ⟨q, 0, none⟩ = some (.string nm) ∧ w'.cell? ⟨q, 1, none⟩ = some (.int .i64 kd) ∧ w'.cell? ⟨q, 2, none⟩ = some (.int .i64 ks) ∧ w'.cell? ⟨q, 3, none⟩ = some (.int .i64 vs) ∧ w'.cell? ⟨q, 4, none⟩ = some (.int .i64 mx)) ∧ Kept (fun _ => False) w4 w' := by
    intro W' k
    refine (len_any (HM4.out.kept k).1).mono ?_
    rintro e w' ⟨rfl, k'⟩
    exact ⟨by rw [HL.out], HC.out w' ((K4.out.trans k (fun _ _ e => e)).trans k' (fun _ _ e => e)), k.trans k' (fun _ _ e => e)⟩
  have MAP : ∀ W', Kept (fun _ => False) w4 W' → Calls Try.prog 18 #[.pointer (some ⟨bt, 0, none⟩)] W' fun e w' => e = .returned (.agg #[.string nm, .int .i64 kd, .int .i64 ks, .int .i64 vs, .int .i64 mx]) ∧ (w'.cell? ⟨q, 0, none⟩ = some (.string nm) ∧ w'.cell? ⟨q, 1, none⟩ = some (.int .i64 kd) ∧ w'.cell? ⟨q, 2, none⟩ = some (.int .i64 ks) ∧ w'.cell? ⟨q, 3, none⟩ = some (.int .i64 vs) ∧ w'.cell? ⟨q, 4, none⟩ = some (.int .i64 mx)) ∧ Kept (fun _ => False) w4 w' := by
    intro W' k
    refine (map_any (HM4.out.kept k).1).mono ?_
    rintro e w' ⟨rfl, k'⟩
    exact ⟨rfl, HC.out w' ((K4.out.trans k (fun _ _ e => e)).trans k' (fun _ _ e => e)), k.trans k' (fun _ _ e => e)⟩
  have LENH := Lib.hid LEN
  have MAPH := Lib.hid MAP
  clear LEN MAP
  by_cases h1 : kd = 1
  · subst h1
    rw [if_pos rfl] at LENH
    go_wp2_with fail
    go_region_held3 (fun w' => w'.cell? ⟨q, 0, none⟩ = some (.string nm) ∧ w'.cell? ⟨q, 1, none⟩ = some (.int .i64 1) ∧ w'.cell? ⟨q, 2, none⟩ = some (.int .i64 ks) ∧ w'.cell? ⟨q, 3, none⟩ = some (.int .i64 vs) ∧ w'.cell? ⟨q, 4, none⟩ = some (.int .i64 mx)) (go_keep) (first | (go_at_call 17; refine (LENH.out _ (by exact (Kept.refl _ _).twin ⟨rfl, rfl, rfl, rfl⟩)).mono ?_; rintro e w5 ⟨rfl, ⟨c50, c51, c52, c53, c54⟩, k5⟩; have K5 := Lib.hid k5; clear k5) | (go_at_call 18; refine (MAPH.out _ K5.out).mono ?_; rintro e w6 ⟨rfl, ⟨c60, c61, c62, c63, c64⟩, k6⟩; have K6 := Lib.hid k6; clear k6))
    all_goals
      go_wp2_with fail
      go_ret
      exact ⟨rfl, (K0.out.trans K4.out (fun _ _ e => e)).trans K6.out (fun _ _ e => e)⟩
  · have hk1 : (kd == 1) = false := by simpa using h1
    rw [if_neg h1] at LENH
    go_wp2_with fail
    go_region_held3 (fun w' => w'.cell? ⟨q, 0, none⟩ = some (.string nm) ∧ w'.cell? ⟨q, 1, none⟩ = some (.int .i64 kd) ∧ w'.cell? ⟨q, 2, none⟩ = some (.int .i64 ks) ∧ w'.cell? ⟨q, 3, none⟩ = some (.int .i64 vs) ∧ w'.cell? ⟨q, 4, none⟩ = some (.int .i64 mx)) (go_keep) (first | (go_at_call 17; refine (LENH.out _ (by exact (Kept.refl _ _).twin ⟨rfl, rfl, rfl, rfl⟩)).mono ?_; rintro e w5 ⟨rfl, ⟨c50, c51, c52, c53, c54⟩, k5⟩; have K5 := Lib.hid k5; clear k5) | (go_at_call 18; refine (MAPH.out _ K5.out).mono ?_; rintro e w6 ⟨rfl, ⟨c60, c61, c62, c63, c64⟩, k6⟩; have K6 := Lib.hid k6; clear k6))
    all_goals
      go_wp2_with fail
      go_ret
      exact ⟨rfl, (K0.out.trans K4.out (fun _ _ e => e)).trans K6.out (fun _ _ e => e)⟩
theorem tableMaps_any (m : TM) (hs : m.nm.size ≤ 9223372036854775807) : Calls Try.prog 3 #[m.v] W fun e w' => e = .returned (.bool true) ∧ Kept (fun _ => False) W w' := by
  cases hr : m.right with
  | false => exact tableMaps_wrong m hs hr
  | true => exact tableMaps_right m hs hr
end
end Go.Proofs.Ytalahbmahpgkeaa
