/- TableFull, walked. -/
import Derived.Test.YtalahbmahpgkeaaSess
import Derived.Deep.CutBlock
import Derived.Deep.RegionHeld3
namespace Go.Proofs.Ytalahbmahpgkeaa
set_option linter.unusedVariables false
set_option linter.unusedSimpArgs false
open Go.RowKit Go.MapKept

/-! ### The plain law -/
def fullP (i : Nat) : List Pr := (List.range i).map fun j => (numK j, b1 j)
def fullM (kd : Int) (N : Nat) : TM := ⟨⟨#[109]⟩, kd, 4, 1, (N : Int)⟩
def full1 (kd : Int) (N : Nat) : List Pr := updP (fullM kd N) (numK 99) (b1 1) 0 (fullP N)
def full2 (kd : Int) (N : Nat) : List Pr := updP (fullM kd N) (numK (N - 1)) (b1 7) 0 (full1 kd N)
def full3 (kd : Int) (N : Nat) : List Pr := useP (fullM kd N) (numK 0) (full2 kd N)
def full4 (kd : Int) (N : Nat) : List Pr := useP (fullM kd N) (numK 99) (full3 kd N)
def fullCheck (kd : Int) (N : Nat) : Bool :=
  (List.range N).all (fun i => codeP (fullM kd N) (numK i) (b1 i) 1 (fullP i) == 0 && decide (updP (fullM kd N) (numK i) (b1 i) 1 (fullP i) = fullP (i + 1))) &&
  codeP (fullM kd N) (numK 99) (b1 1) 0 (fullP N) == (if kd = 2 then 5 else 0) && codeP (fullM kd N) (numK (N - 1)) (b1 7) 0 (full1 kd N) == 0 &&
  (lookP (numK 0) (full2 kd N)).isSome == (kd == 2 || N == 1) && (lookP (numK 99) (full3 kd N)).isSome == (kd == 3 && decide (1 < N)) && (full4 kd N).length == N
theorem full_ok : ∀ N < 13, 1 ≤ N → fullCheck 2 N = true ∧ fullCheck 3 N = true := by decide +kernel
theorem full_right : ∀ N < 13, 1 ≤ N → (fullM 2 N).right = true ∧ (fullM 3 N).right = true := by decide +kernel
structure FullLaw (kd : Int) (N : Nat) : Prop where
  step : ∀ i < N, codeP (fullM kd N) (numK i) (b1 i) 1 (fullP i) = 0 ∧ updP (fullM kd N) (numK i) (b1 i) 1 (fullP i) = fullP (i + 1)
  c1 : codeP (fullM kd N) (numK 99) (b1 1) 0 (fullP N) = if kd = 2 then 5 else 0
  c2 : codeP (fullM kd N) (numK (N - 1)) (b1 7) 0 (full1 kd N) = 0
  l1 : (lookP (numK 0) (full2 kd N)).isSome = (kd == 2 || N == 1)
  l2 : (lookP (numK 99) (full3 kd N)).isSome = (kd == 3 && decide (1 < N))
  len : (full4 kd N).length = N
theorem full_law {kd : Int} {N : Nat} (h : fullCheck kd N = true) : FullLaw kd N := by
  unfold fullCheck at h
  simp only [Bool.and_eq_true, beq_iff_eq, List.all_eq_true, List.mem_range, decide_eq_true_eq] at h
  obtain ⟨⟨⟨⟨⟨h1, h2⟩, h3⟩, h4⟩, h5⟩, h6⟩ := h
  exact ⟨h1, h2, h3, h4, h5, h6⟩
theorem fullM_v (most : Int) : ∃ N : Nat, 1 ≤ N ∧ N < 13 ∧ (smallM 1 3 0 most) = fullM 2 N := by
  obtain ⟨K, Y, V, X, h1, h2, h3, h4, e1, e2, e3, e4⟩ := small_nums 1 3 0 most
  refine ⟨X + 1, by omega, by omega, ?_⟩
  have e1 : (bits .and .i64 1 255).tmod 3 = 1 := by decide
  have e2 : bits .and .i64 3 3 = 3 := by decide
  have e3 : bits .and .i64 0 7 = 0 := by decide
  unfold smallM fullM
  rw [e1, e2, e3, e4]
  simp only [TM.mk.injEq, true_and]
  refine ⟨rfl, by decide, by decide, by omega⟩

set_option maxRecDepth 100000 in
set_option maxHeartbeats 4000000 in
theorem tableFull_any (is : Bool) (most : Int) (W : World) :
    Calls Try.prog 4 #[.bool is, .int .i64 most] W fun e w' => e = .returned (.bool true) ∧ Kept (fun _ => False) W w' := by
  obtain ⟨N, hN1, hN2, hM⟩ := fullM_v most
  have hsa := small_any 1 3 0 most
  rw [hM] at hsa
  have hL : FullLaw (if is then 3 else 2) N := by
    cases is with
    | false => exact full_law (full_ok N hN2 hN1).1
    | true => exact full_law (full_ok N hN2 hN1).2
  have hR : (fullM (if is then 3 else 2) N).right = true := by
    cases is with
    | false => exact (full_right N hN2 hN1).1
    | true => exact (full_right N hN2 hN1).2
  simp only [TM.v, fullM] at hsa
  have HSA := Lib.hid hsa
  generalize hkd : (if is then (3 : Int) else 2) = kd at hL hR
  have HL := Lib.hid hL
  have HR := Lib.hid hR
  clear hsa hM hL hR
  have hv := fun w s => bytes_made w s
  cases is
  case' false =>
    have HKD := Lib.hid hkd
    have HX := Lib.hid (show (if kd = 2 then (5 : Int) else 0) = 5 ∧ (∀ N : Nat, (kd == 2 || N == 1) = true) ∧ ∀ N : Nat, (kd == 3 && decide (1 < N)) = false from by rw [← hkd]; exact ⟨rfl, fun _ => rfl, fun _ => rfl⟩)
    clear hkd
    go_enter Try.func4, Try.ntmps4
    go_wp2_with fail
    refine (shown_any W).mono ?_
    rintro e w1 ⟨rfl, k1⟩
    have K1 := Lib.hid k1
    clear k1
    go_wp2_with fail
    refine (HSA.out w1).mono ?_
    rintro e w2 ⟨rfl, k2⟩
    have K2 := Lib.hid (K1.out.trans k2 (fun _ _ e => e))
    clear k2
    go_upto_region 5 with fail
    generalize hw3 : w2.alloc (.cells #[.string ⟨#[109]⟩, .int .i64 2, .int .i64 4, .int .i64 1, .int .i64 (N : Int)] 23) = W0
    have HB := Lib.hid (show MBox W0 w2.heap.size (fullM kd N) from by rw [← hw3, ← HKD.out]; exact MBox.new w2 (fullM 2 N) 23)
    have K3 := Lib.hid (show Kept (fun _ => False) W W0 from K2.out.trans (by rw [← hw3]; exact Kept.one_alloc w2 _) (fun _ _ e => e))
    clear hw3
  case' true =>
    have HKD := Lib.hid hkd
    have HX := Lib.hid (show (if kd = 2 then (5 : Int) else 0) = 0 ∧ (∀ N : Nat, (kd == 2 || N == 1) = (N == 1)) ∧ ∀ N : Nat, (kd == 3 && decide (1 < N)) = decide (1 < N) from by rw [← hkd]; exact ⟨rfl, fun _ => rfl, fun _ => rfl⟩)
    clear hkd
    go_enter Try.func4, Try.ntmps4
    go_wp2_with fail
    refine (shown_any W).mono ?_
    rintro e w1 ⟨rfl, k1⟩
    have K1 := Lib.hid k1
    clear k1
    go_wp2_with fail
    refine (HSA.out w1).mono ?_
    rintro e w2 ⟨rfl, k2⟩
    have K2 := Lib.hid (K1.out.trans k2 (fun _ _ e => e))
    clear k2
    go_upto_region 5 with fail
    generalize hw3 : w2.alloc (.cells #[.string ⟨#[109]⟩, .int .i64 3, .int .i64 4, .int .i64 1, .int .i64 (N : Int)] 23) = W0
    have HB := Lib.hid (show MBox W0 w2.heap.size (fullM kd N) from by rw [← hw3, ← HKD.out]; exact MBox.new w2 (fullM 3 N) 23)
    have K3 := Lib.hid (show Kept (fun _ => False) W W0 from K2.out.trans (by rw [← hw3]; exact Kept.one_alloc w2 _) (fun _ _ e => e))
    clear hw3
  all_goals
    generalize hq : w2.heap.size = q at *
    clear hq K1 K2
    obtain ⟨_, c0, c1, c2, c3, c4⟩ := HB.out
    simp only [fullM] at c0 c1 c2 c3 c4
    go_wp2_with fail
    refine (one_new HR.out W0).mono ?_
    rintro e w4 ⟨bt, rfl, hs⟩
    rw [show newP (fullM kd N) = fullP 0 from by unfold newP; rw [if_neg (by show ¬ kd = 1; rw [← HKD.out]; decide)]; rfl] at hs
    have HS := Lib.hid hs
    clear c0 c1 c2 c3 c4 hs
    go_wp2_with fail
    go_loopw [9] (fun i wr => ∃ k : Nat, k ≤ N ∧ i = .int .i64 k ∧ One W0 (fullM kd N) bt (fullP k) wr) (fun i _ => N - (intOf i).toNat)
    case atStart => exact ⟨0, by omega, rfl, HS.out⟩
    case round =>
      obtain ⟨k, hk, rfl, hs⟩ := hrel
      clear HS
      have HS := Lib.hid hs
      have hb := HB.out.kept hs.2 (fun e => e)
      have d4 : wr.cell? ⟨q, 4, none⟩ = some (.int .i64 (N : Int)) := hb.c4
      clear hs hb
      by_cases hlt : k < N
      · have HU := Lib.hid (HL.out.step k hlt)
        go_wp2_with fail
        refine (rnumbered_any k (by omega) wr).mono ?_
        rintro e w5 ⟨rfl, k5⟩
        obtain ⟨cc, w6, hcv, k6, b6, z6⟩ := bytes_made w5 (numK k)
        have B6 := Lib.hid b6
        have K6 := Lib.hid (k5.trans k6 (fun _ _ e => e))
        clear b6 k5 k6 z6 d4
        go_wp2_with fail
        refine (one_put1 HS.out K6.out B6.out k (by omega) 5 _ rfl).mono ?_
        rintro e w7 ⟨rfl, h7⟩
        rw [HU.out.2] at h7
        rw [HU.out.1]
        have H7 := Lib.hid h7
        clear h7 hcv
        go_wp2_with fail
        go_roundw
        case rel => exact ⟨k + 1, by omega, by go_num, H7.out⟩
        case measure => simp [intOf]; omega
      · obtain rfl : k = N := by omega
        go_wp2_with fail
        refine (rnumbered_any 99 (by omega) wr).mono ?_
        rintro e w5 ⟨rfl, k5⟩
        obtain ⟨cc, w6, hcv, k6, b6, z6⟩ := bytes_made w5 (numK 99)
        have B6 := Lib.hid b6
        have K6 := Lib.hid (k5.trans k6 (fun _ _ e => e))
        clear b6 k5 k6 z6 d4
        go_wp2_with fail
        refine (one_put1 HS.out K6.out B6.out 1 (by omega) 5 _ rfl).mono ?_
        rintro e w7 ⟨rfl, h7⟩
        have H7 := Lib.hid (show One W0 (fullM kd k) bt (full1 kd k) w7 from h7)
        have hb := HB.out.kept h7.2 (fun e => e)
        have d4 : w7.cell? ⟨q, 4, none⟩ = some (.int .i64 (k : Int)) := hb.c4
        have hk1 : ((k : Int) - 1) = ((k - 1 : Nat) : Int) := by omega
        clear h7 hcv hb
        go_wp2_with fail
        refine (rnumbered_any (k - 1) (by omega) w7).mono ?_
        rintro e w8 ⟨rfl, k8⟩
        obtain ⟨cc8, w9, hcv, k9, b9, z9⟩ := bytes_made w8 (numK (k - 1))
        have B9 := Lib.hid b9
        have K9 := Lib.hid (k8.trans k9 (fun _ _ e => e))
        clear b9 k8 k9 z9 d4 hk1
        go_wp2_with fail
        refine (one_put1 H7.out K9.out B9.out 7 (by omega) 5 _ rfl).mono ?_
        rintro e w10 ⟨rfl, h10⟩
        have H10 := Lib.hid (show One W0 (fullM kd k) bt (full2 kd k) w10 from h10)
        rw [HL.out.c1, HX.out.1]
        rw [HL.out.c2]
        clear h10 hcv
        go_wp2_with fail
        refine (rnumbered_any 0 (by omega) w10).mono ?_
        rintro e w11 ⟨rfl, k11⟩
        obtain ⟨cc11, w12, hcv, k12, b12, z12⟩ := bytes_made w11 (numK 0)
        have B12 := Lib.hid b12
        have K12 := Lib.hid (k11.trans k12 (fun _ _ e => e))
        clear b12 k11 k12 z12
        go_wp2_with fail
        refine (one_look H10.out K12.out B12.out).mono ?_
        rintro e w13 ⟨x13, rfl, h13, -⟩
        have H13 := Lib.hid (show One W0 (fullM kd k) bt (full3 kd k) w13 from h13)
        rw [HL.out.l1, HX.out.2.1]
        clear h13 hcv
        go_wp2_with fail
        refine (rnumbered_any 99 (by omega) w13).mono ?_
        rintro e w14 ⟨rfl, k14⟩
        obtain ⟨cc14, w15, hcv, k15, b15, z15⟩ := bytes_made w14 (numK 99)
        have B15 := Lib.hid b15
        have K15 := Lib.hid (k14.trans k15 (fun _ _ e => e))
        clear b15 k14 k15 z15
        go_wp2_with fail
        refine (one_look H13.out K15.out B15.out).mono ?_
        rintro e w16 ⟨x16, rfl, h16, -⟩
        have H16 := Lib.hid (show One W0 (fullM kd k) bt (full4 kd k) w16 from h16)
        rw [HL.out.l2, HX.out.2.2]
        have hb := HB.out.kept h16.2 (fun e => e)
        have d4 : w16.cell? ⟨q, 4, none⟩ = some (.int .i64 (k : Int)) := hb.c4
        have LEN : ∀ W', Kept (fun _ => False) w16 W' → Calls Try.prog 17 #[.pointer (some ⟨bt, 0, none⟩)] W' fun e w' => e = .returned (.int .i64 (k : Int)) ∧ w'.cell? ⟨q, 4, none⟩ = some (.int .i64 (k : Int)) ∧ Kept (fun _ => False) w16 w' := by
          intro W' kk
          refine (one_len (H16.out.keep kk)).mono ?_
          rintro e w' ⟨rfl, k', -⟩
          exact ⟨by rw [HL.out.len], (HB.out.kept (H16.out.2.trans (kk.trans k' (fun _ _ e => e)) (fun _ _ e => e)) (fun e => e)).c4, kk.trans k' (fun _ _ e => e)⟩
        have LENH := Lib.hid LEN
        have HE := Lib.hid (K3.out.trans H16.out.2 (fun _ _ e => e))
        clear h16 hcv LEN hb
        obtain ⟨bk, hk1, hk2, hk3, hk4⟩ : ∃ bk : Bool, (k == 1) = bk ∧ decide (1 < k) = !bk ∧ ((k : Int) == 1) = bk ∧ decide (1 < (k : Int)) = !bk := by
          by_cases h1 : k = 1
          · subst h1
            exact ⟨true, rfl, rfl, rfl, rfl⟩
          · refine ⟨false, by simpa using h1, decide_eq_true (by omega), by rw [beq_eq_false_iff_ne]; omega, decide_eq_true (by omega)⟩
        try rw [hk1]
        try rw [hk2]
        clear hk1 hk2
        cases bk
        all_goals
          simp only [Bool.not_true, Bool.not_false] at hk4 ⊢
          go_wp2_with fail
          go_region_held3 (fun w' => w'.cell? ⟨q, 4, none⟩ = some (.int .i64 (k : Int))) (go_keep) ((go_at_call 17; refine (LENH.out _ (by exact (Kept.refl _ _).twin ⟨rfl, rfl, rfl, rfl⟩)).mono ?_; rintro e w17 ⟨rfl, d5, k17⟩; have K17 := Lib.hid k17; clear k17))
          all_goals
            go_wp2_with fail
            go_ret
            exact ⟨rfl, HE.out.trans K17.out (fun _ _ e => e)⟩
end Go.Proofs.Ytalahbmahpgkeaa
