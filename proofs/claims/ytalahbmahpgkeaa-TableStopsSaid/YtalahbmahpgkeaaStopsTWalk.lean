/- TableStops, walked. -/
import Derived.Test.YtalahbmahpgkeaaSame10
import Derived.Test.YtalahbmahpgkeaaGenE
import Derived.Test.YtalahbmahpgkeaaGenA
namespace Go.Proofs.Ytalahbmahpgkeaa
set_option linter.unusedVariables false
set_option linter.unusedSimpArgs false
open Go.RowKit Go.MapKept

theorem doc_nats {m : TM} (h : m.right = true) : ∃ K V : Nat, m.ks = (K : Int) ∧ m.vs = (V : Int) ∧ K ≤ 64 ∧ V ≤ 256 := by
  have hr := (rightB_iff _ _ _ _ _).1 h
  exact ⟨m.ks.toNat, m.vs.toNat, by omega, by omega, by omega, by omega⟩

theorem D2.lowX {W W0 w : World} {m : TM} {bt br : Nat} {X : Nat → Prop} {P Q : List Pr} (h : D2 W0 m bt br X P Q w) (q : Kept (fun _ => False) W W0) : D2 W m bt br (fun b => X b ∨ b < W0.heap.size) P Q w := by
  obtain ⟨Ft, Fr, h1, h2, h3, h4⟩ := h.ex
  have := q.size
  exact ⟨⟨Ft, Fr, h1, h2, h3, fun b hb => by have := h4 b hb; exact ⟨by omega, this.2.1, fun e => e.elim this.2.2 (fun e => by omega)⟩⟩, q.trans h.back (fun _ _ e => e)⟩

set_option maxRecDepth 100000 in
set_option maxHeartbeats 4000000 in
theorem tableStops_any (kind key value most : Int) (a : Option Addr) (n c : Nat) (ss : Nat → St7) (x : Int) (W : World) (hs : Steps7 W a n ss) (hn : n ≤ 9223372036854775807) :
    Calls Try.prog 8 #[.int .i64 kind, .int .i64 key, .int .i64 value, .int .i64 most, .slice a n c, .int .i64 x] W fun e w' => e = .returned (.bool true) ∧ Kept (fun _ => False) W w' := by
  obtain ⟨M, hM⟩ : ∃ M, M = smallM kind key value most := ⟨_, rfl⟩
  have hsm := (small_right kind key value most).1
  have hsa := small_any kind key value most
  have hsx := (small_right kind key value most).2
  have hnm : M.nm = ⟨#[109]⟩ := by rw [hM]; rfl
  rw [← hM] at hsm hsa hsx
  clear hM
  obtain ⟨K, V, hK, hV, hK64, hV256⟩ := doc_nats hsm
  obtain ⟨nm, kd, ks, vs, mx⟩ := M
  simp only at hK hV hnm hsx
  subst hK
  subst hV
  subst hnm
  have hmx12 : mx ≤ 12 := hsx.2.2
  simp only [TM.v] at hsa
  obtain ⟨m, hm⟩ : ∃ m : TM, m = ⟨⟨#[109]⟩, kd, K, V, mx⟩ := ⟨_, rfl⟩
  rw [← hm] at hsm
  have HM := Lib.hid hm
  have HSA := Lib.hid hsa
  have HSM := Lib.hid hsm
  have HS := Lib.hid hs
  have FK0 := Lib.hid (fun (s : ByteArray) (hs : s.size ≤ 9223372036854775807) w => fit_any s K hs (by omega) w)
  have FV0 := Lib.hid (fun (s : ByteArray) (hs : s.size ≤ 9223372036854775807) w => fit_any s V hs (by omega) w)
  clear hsa hsm hsx hs hm
  refine callsIn_WR (ro := none) (n := 0).1 (callsIn_of_wp_marks Try.func8 rfl trivial ?_ rfl)
  simp only [Try.ntmps8, List.size_toArray, List.length_cons, List.length_nil, Nat.reduceAdd, Nat.reduceSub, Array.replicate_succ, Array.replicate_zero, List.push_toArray, List.append_toArray, List.nil_append, List.cons_append]
  gi_wp2_with fail
  obtain ⟨W1, hW1⟩ : ∃ W1, W1 = (W.alloc (.cells #[.int .i64 x] 3)).alloc (.cells #[.bool false] 4) := ⟨_, rfl⟩
  have RB := Lib.hid (show Box W1 W.heap.size (.int .i64 x) ∧ Box W1 (W.heap.size + 1) (.bool false) ∧ Kept (fun _ => False) W W1 from by
    rw [hW1]
    refine ⟨(Box.new W _ _).alloc _, ?_, (Kept.one_alloc W _).alloc _⟩
    have := Box.new (W.alloc (.cells #[.int .i64 x] 3)) (.bool false) 4
    simpa using this)
  rw [← hW1]
  clear hW1
  refine callsIn_WR.2 ((shown_any W1).mono ?_)
  rintro e w1 ⟨rfl, k1⟩
  have K1 := Lib.hid k1
  clear k1
  gi_wp2_with fail
  refine callsIn_WR.2 ((HSA.out w1).mono ?_)
  rintro e w2 ⟨rfl, k2⟩
  have K2 := Lib.hid (K1.out.trans k2 (fun _ _ e => e))
  clear k2
  gi_wp2_with fail
  obtain ⟨q, hq⟩ : ∃ q, q = w2.heap.size := ⟨_, rfl⟩
  obtain ⟨W0, hW0⟩ : ∃ W0, W0 = w2.alloc (.cells #[.string ⟨#[109]⟩, .int .i64 kd, .int .i64 (K : Int), .int .i64 (V : Int), .int .i64 mx] 23) := ⟨_, rfl⟩
  have HB := Lib.hid (show MBox W0 q m from by rw [hW0, hq, HM.out]; exact MBox.new w2 ⟨⟨#[109]⟩, kd, K, V, mx⟩ 23)
  have KW := Lib.hid (show Kept (fun _ => False) W1 W0 from K2.out.trans (by rw [hW0]; exact Kept.one_alloc _ _) (fun _ _ e => e))
  rw [← hW0, ← hq]
  have NEW1 := Lib.hid (show Calls Try.prog 14 #[.agg #[.string ⟨#[109]⟩, .int .i64 kd, .int .i64 (K : Int), .int .i64 (V : Int), .int .i64 mx]] W0 _ from by have h := ses_new HSM.out W0; rw [HM.out] at h; exact h)
  clear K1 K2 hW0 hq
  refine callsIn_WR.2 (NEW1.out.mono ?_)
  rintro e w3 ⟨bt, rfl, hs1, k3⟩
  rw [← HM.out] at hs1
  have S1 := Lib.hid (And.intro hs1 k3)
  have hb3 := HB.out.kept k3 (fun e => e)
  rw [HM.out] at hb3
  obtain ⟨_, q0, q1, q2, q3, q4⟩ := hb3
  simp only at q0 q1 q2 q3 q4
  clear hs1 k3 NEW1
  gi_wp2_with fail
  have NEW2 := Lib.hid (show Calls Try.prog 26 #[.agg #[.string ⟨#[109]⟩, .int .i64 kd, .int .i64 (K : Int), .int .i64 (V : Int), .int .i64 mx]] w3 _ from by have h := rses_new HSM.out (by rw [HM.out]; show (⟨#[109]⟩ : ByteArray).size ≤ _; decide) w3; rw [HM.out] at h; exact h)
  refine callsIn_WR.2 (NEW2.out.mono ?_)
  rintro e w4 ⟨br, rfl, hs2, k4⟩
  rw [← HM.out] at hs2
  have hD := d2_start S1.out.1 S1.out.2 hs2 k4
  obtain ⟨wb, hwb⟩ : ∃ wb, w4.heap.size = wb := ⟨_, rfl⟩
  obtain ⟨w5, hw5⟩ : ∃ w5, w4.alloc (.cells #[.pointer (some ⟨br, 0, none⟩)] 52) = w5 := ⟨_, rfl⟩
  have hD5 : D2 W0 m bt br (fun b => b = wb) (newP m) (ordP m (newP m)) w5 := by
    rw [newP_ord]
    have h := (hD.more (Y := fun b => b = w4.heap.size) (fun b hb => .inr (Nat.le_of_eq hb.symm))).keep (Kept.one_alloc w4 (.cells #[.pointer (some ⟨br, 0, none⟩)] 52))
    rw [hw5] at h
    rw [← hwb]
    exact h
  have hBW : Box w5 wb (.pointer (some ⟨br, 0, none⟩)) := by rw [← hw5, ← hwb]; exact Box.new w4 _ _
  have D0 := Lib.hid (And.intro hD5 hBW)
  have HW5 := Lib.hid (And.intro hw5 hwb)
  have WBL := Lib.hid (show W0.heap.size ≤ wb from by rw [← hwb]; exact hD.back.size)
  have hcw := hBW.cell
  rw [← hw5, ← hwb] at hcw
  clear hs2 k4 NEW2 hD hD5 hBW hw5 hwb q0 q1 q2 q3 q4 S1
  gi_wp2_with fail
  try rw [HW5.out.2]
  try rw [HW5.out.1]
  clear hcw
  gi_loopw [19] (fun i wr => ∃ (k : Nat) (P : List Pr), k ≤ n ∧ k ≤ 30 ∧ i = .int .i64 k ∧ D2 W0 m bt br (fun b => b = wb) P (ordP m P) wr ∧ Box wr wb (.pointer (some ⟨br, 0, none⟩))) (fun i _ => n - (intOf i).toNat)
  case atStart => exact ⟨0, _, Nat.zero_le _, by omega, rfl, D0.out.1, D0.out.2⟩
  case round =>
    obtain ⟨k, P, hk, hk30, rfl, hd, hbw⟩ := hrel
    clear D0
    have hb := HB.out.kept hd.back (fun e => e)
    rw [HM.out] at hb
    have c2 : wr.cell? ⟨q, 2, none⟩ = some (.int .i64 (K : Int)) := hb.c2
    have c3 : wr.cell? ⟨q, 3, none⟩ = some (.int .i64 (V : Int)) := hb.c3
    have D := Lib.hid hd
    have BW := Lib.hid hbw
    clear hb hd hbw
    by_cases hlt : k < n ∧ k < 30
    · obtain ⟨hlt, h30⟩ := hlt
      obtain ⟨b, o, rfl, hbW, hst⟩ := HS.out k hlt
      have CELLS := Lib.hid (show ∀ w', Kept (fun _ => False) W0 w' → w'.cell? ⟨q, 2, none⟩ = some (.int .i64 (K : Int)) ∧ w'.cell? ⟨q, 3, none⟩ = some (.int .i64 (V : Int)) ∧ w'.cell? ⟨b, o + k * 7 + 1, none⟩ = some (.string (ss k).k) ∧ w'.cell? ⟨b, o + k * 7 + 2, none⟩ = some (.string (ss k).v) from fun w' kk => by
        have h1 := HB.out.kept kk (fun e => e)
        rw [HM.out] at h1
        have h2 := hst.kept hbW ((RB.out.2.2.trans KW.out (fun _ _ e => e)).trans kk (fun _ _ e => e)) (fun e => e)
        exact ⟨h1.c2, h1.c3, h2.c1, h2.c2⟩)
      have FK := Lib.hid (FK0.out (ss k).k hst.sk)
      have FV := Lib.hid (FV0.out (ss k).v hst.sv)
      generalize (ss k).k = ky at CELLS FK
      generalize (ss k).v = vl at CELLS FV
      have hcv := conv_row
      clear hst c2 c3
      gi_wp2_with fail
      refine wpW_region_held (S := fun w' => w'.cell? ⟨q, 2, none⟩ = some (.int .i64 (K : Int)) ∧ w'.cell? ⟨q, 3, none⟩ = some (.int .i64 (V : Int)) ∧ w'.cell? ⟨b, o + k * 7 + 1, none⟩ = some (.string ky) ∧ w'.cell? ⟨b, o + k * 7 + 2, none⟩ = some (.string vl)) (by kernel_rfl) (by kernel_rfl) (by rintro ⟨_, _, h⟩; first | exact h.elim | (obtain ⟨h1, -⟩ := h; cases h1)) ?_ (fun hHeld => ?_)
      · exact CELLS.out _ ((D.out.back).trans ((Kept.refl _ _).twin ⟨rfl, rfl, rfl, rfl⟩) (fun _ _ e => e))
      refine held_take 0 (oi := _) (v := ?_) rfl (by kernel_rfl) (by kernel_rfl) (by kernel_rfl) (fun _ _ _ h => h) (by rfl) (fun w hSw => ?_) (by assumption) ?_
      rotate_left
      · (try dsimp only at hSw); go_simp; try with_reducible rfl
      try simp only [Act.put, List.setIfInBounds_toArray, List.set_cons_zero, List.set_cons_succ]
      refine held_take 1 (oi := _) (v := ?_) rfl (by kernel_rfl) (by kernel_rfl) (by kernel_rfl) (fun _ _ _ h => h) (by rfl) (fun w hSw => ?_) (by assumption) ?_
      rotate_left
      · (try dsimp only at hSw); go_simp; try with_reducible rfl
      try simp only [Act.put, List.setIfInBounds_toArray, List.set_cons_zero, List.set_cons_succ]
      refine held_take 2 (oi := _) (v := ?_) rfl (by kernel_rfl) (by kernel_rfl) (by kernel_rfl) (fun _ _ _ h => h) (by rfl) (fun w hSw => ?_) (by assumption) ?_
      rotate_left
      · (try dsimp only at hSw); go_simp; try with_reducible rfl
      try simp only [Act.put, List.setIfInBounds_toArray, List.set_cons_zero, List.set_cons_succ]
      refine held_take 3 (oi := _) (v := ?_) rfl (by kernel_rfl) (by kernel_rfl) (by kernel_rfl) (fun _ _ _ h => h) (by rfl) (fun w hSw => ?_) (by assumption) ?_
      rotate_left
      · (try dsimp only at hSw); go_simp; try with_reducible rfl
      try simp only [Act.put, List.setIfInBounds_toArray, List.set_cons_zero, List.set_cons_succ]
      refine held_take 4 (oi := _) (v := ?_) rfl (by kernel_rfl) (by kernel_rfl) (by kernel_rfl) (fun _ _ _ h => h) (by rfl) (fun w hSw => ?_) (by assumption) ?_
      rotate_left
      · (try dsimp only at hSw); go_simp; try with_reducible rfl
      try simp only [Act.put, List.setIfInBounds_toArray, List.set_cons_zero, List.set_cons_succ]
      refine held_take 5 (oi := _) (v := ?_) rfl (by kernel_rfl) (by kernel_rfl) (by kernel_rfl) (fun _ _ _ h => h) (by rfl) (fun w hSw => ?_) (by assumption) ?_
      rotate_left
      · (try dsimp only at hSw); go_simp; try with_reducible rfl
      try simp only [Act.put, List.setIfInBounds_toArray, List.set_cons_zero, List.set_cons_succ]
      refine held_take 6 (oi := _) (v := ?_) rfl (by kernel_rfl) (by kernel_rfl) (by kernel_rfl) (fun _ _ _ h => h) (by rfl) (fun w hSw => ?_) (by assumption) ?_
      rotate_left
      · (try dsimp only at hSw); go_simp; try with_reducible rfl
      try simp only [Act.put, List.setIfInBounds_toArray, List.set_cons_zero, List.set_cons_succ]
      refine held_take 7 (oi := _) (v := ?_) rfl (by kernel_rfl) (by kernel_rfl) (by kernel_rfl) (fun _ _ _ h => h) (by rfl) (fun w hSw => ?_) (by assumption) ?_
      rotate_left
      · (try dsimp only at hSw); go_simp; try with_reducible rfl
      try simp only [Act.put, List.setIfInBounds_toArray, List.set_cons_zero, List.set_cons_succ]
      refine held_take 10 (oi := _) (v := ?_) rfl (by kernel_rfl) (by kernel_rfl) (by kernel_rfl) (fun _ _ _ h => h) (by rfl) (fun w hSw => ?_) (by assumption) ?_
      rotate_left
      · (try dsimp only at hSw); go_simp; try with_reducible rfl
      try simp only [Act.put, List.setIfInBounds_toArray, List.set_cons_zero, List.set_cons_succ]
      refine held_take 11 (oi := _) (v := ?_) rfl (by kernel_rfl) (by kernel_rfl) (by kernel_rfl) (fun _ _ _ h => h) (by rfl) (fun w hSw => ?_) (by assumption) ?_
      rotate_left
      · (try dsimp only at hSw); go_simp; try with_reducible rfl
      try simp only [Act.put, List.setIfInBounds_toArray, List.set_cons_zero, List.set_cons_succ]
      refine held_take 12 (oi := _) (v := ?_) rfl (by kernel_rfl) (by kernel_rfl) (by kernel_rfl) (fun _ _ _ h => h) (by rfl) (fun w hSw => ?_) (by assumption) ?_
      rotate_left
      · (try dsimp only at hSw); go_simp; try with_reducible rfl
      try simp only [Act.put, List.setIfInBounds_toArray, List.set_cons_zero, List.set_cons_succ]
      refine held_take 13 (oi := _) (v := ?_) rfl (by kernel_rfl) (by kernel_rfl) (by kernel_rfl) (fun _ _ _ h => h) (by rfl) (fun w hSw => ?_) (by assumption) ?_
      rotate_left
      · (try dsimp only at hSw); go_simp; try with_reducible rfl
      try simp only [Act.put, List.setIfInBounds_toArray, List.set_cons_zero, List.set_cons_succ]
      refine held_take 14 (oi := _) (v := ?_) rfl (by kernel_rfl) (by kernel_rfl) (by kernel_rfl) (fun _ _ _ h => h) (by rfl) (fun w hSw => ?_) (by assumption) ?_
      rotate_left
      · (try dsimp only at hSw); go_simp; try with_reducible rfl
      try simp only [Act.put, List.setIfInBounds_toArray, List.set_cons_zero, List.set_cons_succ]
      refine held_take 15 (oi := _) (v := ?_) rfl (by kernel_rfl) (by kernel_rfl) (by kernel_rfl) (fun _ _ _ h => h) (by rfl) (fun w hSw => ?_) (by assumption) ?_
      rotate_left
      · (try dsimp only at hSw); go_simp; try with_reducible rfl
      try simp only [Act.put, List.setIfInBounds_toArray, List.set_cons_zero, List.set_cons_succ]
      refine held_take 16 (oi := _) (v := ?_) rfl (by kernel_rfl) (by kernel_rfl) (by kernel_rfl) (fun _ _ _ h => h) (by rfl) (fun w hSw => ?_) (by assumption) ?_
      rotate_left
      · (try dsimp only at hSw); go_simp; try with_reducible rfl
      try simp only [Act.put, List.setIfInBounds_toArray, List.set_cons_zero, List.set_cons_succ]
      refine wpAnyH_ready (rs := [8]) (by kernel_rfl) (by simp) ?_
      refine held_cons 8 (o := _) rfl (fun KC hKC => ?_) AllReadyH.nil
      go_simp
      with_reducible refine Calls.mono (FK.out _) ?_
      rintro e1 wA ⟨rfl, kwA⟩
      have TA := Lib.hid (show Kept (fun _ => False) wr wA from by first | exact TA.out.trans kwA (fun _ _ e => e) | exact ((Kept.refl _ _).drew).trans kwA (fun _ _ e => e))
      have KA := Lib.hid kwA
      clear kwA
      dsimp only
      refine hKC.out _ _ ?_ (fun hHeld => ?_)
      · first | exact CELLS.out _ D20.out.1.back | exact CELLS.out _ (D.out.back.trans T18.out (fun _ _ e => e)) | exact CELLS.out _ (D.out.back.trans T9.out (fun _ _ e => e)) | exact CELLS.out _ (D.out.back.trans TB.out (fun _ _ e => e)) | exact CELLS.out _ (D.out.back.trans TA.out (fun _ _ e => e))
      clear hKC KC
      try simp only [Act.put, List.setIfInBounds_toArray, List.set_cons_zero, List.set_cons_succ]
      refine wpAnyH_ready (rs := [9, 17]) (by kernel_rfl) (by simp) ?_
      refine held_cons 9 (o := _) rfl (fun KC hKC => ?_) (held_cons 17 (o := _) rfl (fun KC hKC => ?_) AllReadyH.nil)
      ·
        rw [if_pos (by rfl)]
        go_simp
        first | refine conv_abs (K := KC _) ?_ | refine conv_absD (K := KC _) ?_
        intro w9 kw9 bw9
        have T9 := Lib.hid (show Kept (fun _ => False) wr w9 from by first | exact T18.out.trans kw9 (fun _ _ e => e) | exact TB.out.trans kw9 (fun _ _ e => e) | exact TA.out.trans kw9 (fun _ _ e => e))
        have K9 := Lib.hid kw9
        have B9 := Lib.hid bw9
        clear kw9 bw9
        refine hKC.out _ _ ?_ (fun hHeld => ?_)
        · first | exact CELLS.out _ D20.out.1.back | exact CELLS.out _ (D.out.back.trans T18.out (fun _ _ e => e)) | exact CELLS.out _ (D.out.back.trans T9.out (fun _ _ e => e)) | exact CELLS.out _ (D.out.back.trans TB.out (fun _ _ e => e)) | exact CELLS.out _ (D.out.back.trans TA.out (fun _ _ e => e))
        clear hKC KC
        try simp only [Act.put, List.setIfInBounds_toArray, List.set_cons_zero, List.set_cons_succ]
        refine wpAnyH_ready (rs := [17]) (by kernel_rfl) (by simp) ?_
        refine held_cons 17 (o := _) rfl (fun KC hKC => ?_) AllReadyH.nil
        go_simp
        with_reducible refine Calls.mono (FV.out _) ?_
        rintro e1 wB ⟨rfl, kwB⟩
        have TB := Lib.hid (show Kept (fun _ => False) wr wB from by first | exact T9.out.trans kwB (fun _ _ e => e) | exact TA.out.trans kwB (fun _ _ e => e) | exact ((Kept.refl _ _).twin ⟨rfl, rfl, rfl, rfl⟩).trans kwB (fun _ _ e => e))
        have KB := Lib.hid kwB
        clear kwB
        dsimp only
        refine hKC.out _ _ ?_ (fun hHeld => ?_)
        · first | exact CELLS.out _ D20.out.1.back | exact CELLS.out _ (D.out.back.trans T18.out (fun _ _ e => e)) | exact CELLS.out _ (D.out.back.trans T9.out (fun _ _ e => e)) | exact CELLS.out _ (D.out.back.trans TB.out (fun _ _ e => e)) | exact CELLS.out _ (D.out.back.trans TA.out (fun _ _ e => e))
        clear hKC KC
        try simp only [Act.put, List.setIfInBounds_toArray, List.set_cons_zero, List.set_cons_succ]
        refine wpAnyH_ready (rs := [18]) (by kernel_rfl) (by simp) ?_
        refine held_cons 18 (o := _) rfl (fun KC hKC => ?_) AllReadyH.nil
        rw [if_pos (by rfl)]
        go_simp
        first | refine conv_abs (K := KC _) ?_ | refine conv_absD (K := KC _) ?_
        intro w18 kw18 bw18
        have T18 := Lib.hid (show Kept (fun _ => False) wr w18 from by first | exact T9.out.trans kw18 (fun _ _ e => e) | exact TB.out.trans kw18 (fun _ _ e => e))
        have K18 := Lib.hid kw18
        have B18 := Lib.hid bw18
        clear kw18 bw18
        refine hKC.out _ _ ?_ (fun hHeld => ?_)
        · first | exact CELLS.out _ D20.out.1.back | exact CELLS.out _ (D.out.back.trans T18.out (fun _ _ e => e)) | exact CELLS.out _ (D.out.back.trans T9.out (fun _ _ e => e)) | exact CELLS.out _ (D.out.back.trans TB.out (fun _ _ e => e)) | exact CELLS.out _ (D.out.back.trans TA.out (fun _ _ e => e))
        clear hKC KC
        try simp only [Act.put, List.setIfInBounds_toArray, List.set_cons_zero, List.set_cons_succ]
        refine wpAnyH_ready (rs := [19]) (by kernel_rfl) (by simp) ?_
        refine held_cons 19 (o := _) rfl (fun KC hKC => ?_) AllReadyH.nil
        go_simp
        with_reducible refine Calls.mono (d2_upd1 (k := fitB ky K) (v := fitB vl V) D.out (fun b hb => by rw [hb]; exact BW.out.lt) (by first | exact T18.out | exact T9.out) (by first | exact B9.out | exact B9.out.kept K18.out (fun _ _ _ e => e) | exact (B9.out.kept KB.out (fun _ _ _ e => e)).kept K18.out (fun _ _ _ e => e)) (by first | exact B18.out | exact B18.out.kept K9.out (fun _ _ _ e => e)) (fun b o e => .inl (by cases e; first | exact TB.out.size | exact T9.out.size))) ?_
        rintro e1 w20 ⟨rfl, d20, k20⟩
        have D20 := Lib.hid (And.intro d20 k20)
        clear d20 k20
        dsimp only
        refine hKC.out _ _ ?_ (fun hHeld => ?_)
        · first | exact CELLS.out _ D20.out.1.back | exact CELLS.out _ (D.out.back.trans T18.out (fun _ _ e => e)) | exact CELLS.out _ (D.out.back.trans T9.out (fun _ _ e => e)) | exact CELLS.out _ (D.out.back.trans TB.out (fun _ _ e => e)) | exact CELLS.out _ (D.out.back.trans TA.out (fun _ _ e => e))
        clear hKC KC
        try simp only [Act.put, List.setIfInBounds_toArray, List.set_cons_zero, List.set_cons_succ]
        refine wpAnyH_done (by kernel_rfl) (NoPanic.normal ?_) _
        have CELLS2 := Lib.hid (show ∀ w', Kept (fun _ => False) W0 w' → Box w' wb (.pointer (some ⟨br, 0, none⟩)) → w'.cell? ⟨q, 2, none⟩ = some (.int .i64 (K : Int)) ∧ w'.cell? ⟨q, 3, none⟩ = some (.int .i64 (V : Int)) ∧ w'.cell? ⟨b, o + k * 7 + 1, none⟩ = some (.string ky) ∧ w'.cell? ⟨b, o + k * 7 + 2, none⟩ = some (.string vl) ∧ w'.cell? ⟨wb, 0, none⟩ = some (.pointer (some ⟨br, 0, none⟩)) from fun w' kk bb => ⟨(CELLS.out w' kk).1, (CELLS.out w' kk).2.1, (CELLS.out w' kk).2.2.1, (CELLS.out w' kk).2.2.2, bb.cell⟩)
        have BW20 := Lib.hid (BW.out.kept D20.out.2 (fun h => h.2.2 rfl))
        have HXB := Lib.hid (show ∀ b, b = wb → b < w20.heap.size from fun b hb => by rw [hb]; exact BW20.out.lt)
        gi_wp2_with fail
        refine wpW_region_held (S := fun w' => w'.cell? ⟨q, 2, none⟩ = some (.int .i64 (K : Int)) ∧ w'.cell? ⟨q, 3, none⟩ = some (.int .i64 (V : Int)) ∧ w'.cell? ⟨b, o + k * 7 + 1, none⟩ = some (.string ky) ∧ w'.cell? ⟨b, o + k * 7 + 2, none⟩ = some (.string vl) ∧ w'.cell? ⟨wb, 0, none⟩ = some (.pointer (some ⟨br, 0, none⟩))) (by kernel_rfl) (by kernel_rfl) (by rintro ⟨_, _, h⟩; first | exact h.elim | (obtain ⟨h1, -⟩ := h; cases h1)) ?_ (fun hHeld => ?_)
        · exact CELLS2.out _ ((D20.out.1.back).trans ((Kept.refl _ _).twin ⟨rfl, rfl, rfl, rfl⟩) (fun _ _ e => e)) (BW20.out.twin ⟨rfl, rfl, rfl, rfl⟩)
        refine held_take 0 (oi := _) (v := ?_) rfl (by kernel_rfl) (by kernel_rfl) (by kernel_rfl) (fun _ _ _ h => h) (by rfl) (fun w hSw => ?_) (by assumption) ?_
        rotate_left
        · (try dsimp only at hSw); go_simp; try with_reducible rfl
        try simp only [Act.put, List.setIfInBounds_toArray, List.set_cons_zero, List.set_cons_succ]
        refine held_take 1 (oi := _) (v := ?_) rfl (by kernel_rfl) (by kernel_rfl) (by kernel_rfl) (fun _ _ _ h => h) (by rfl) (fun w hSw => ?_) (by assumption) ?_
        rotate_left
        · (try dsimp only at hSw); go_simp; try with_reducible rfl
        try simp only [Act.put, List.setIfInBounds_toArray, List.set_cons_zero, List.set_cons_succ]
        refine held_take 2 (oi := _) (v := ?_) rfl (by kernel_rfl) (by kernel_rfl) (by kernel_rfl) (fun _ _ _ h => h) (by rfl) (fun w hSw => ?_) (by assumption) ?_
        rotate_left
        · (try dsimp only at hSw); go_simp; try with_reducible rfl
        try simp only [Act.put, List.setIfInBounds_toArray, List.set_cons_zero, List.set_cons_succ]
        refine held_take 3 (oi := _) (v := ?_) rfl (by kernel_rfl) (by kernel_rfl) (by kernel_rfl) (fun _ _ _ h => h) (by rfl) (fun w hSw => ?_) (by assumption) ?_
        rotate_left
        · (try dsimp only at hSw); go_simp; try with_reducible rfl
        try simp only [Act.put, List.setIfInBounds_toArray, List.set_cons_zero, List.set_cons_succ]
        refine held_take 4 (oi := _) (v := ?_) rfl (by kernel_rfl) (by kernel_rfl) (by kernel_rfl) (fun _ _ _ h => h) (by rfl) (fun w hSw => ?_) (by assumption) ?_
        rotate_left
        · (try dsimp only at hSw); go_simp; try with_reducible rfl
        try simp only [Act.put, List.setIfInBounds_toArray, List.set_cons_zero, List.set_cons_succ]
        refine held_take 5 (oi := _) (v := ?_) rfl (by kernel_rfl) (by kernel_rfl) (by kernel_rfl) (fun _ _ _ h => h) (by rfl) (fun w hSw => ?_) (by assumption) ?_
        rotate_left
        · (try dsimp only at hSw); go_simp; try with_reducible rfl
        try simp only [Act.put, List.setIfInBounds_toArray, List.set_cons_zero, List.set_cons_succ]
        refine held_take 6 (oi := _) (v := ?_) rfl (by kernel_rfl) (by kernel_rfl) (by kernel_rfl) (fun _ _ _ h => h) (by rfl) (fun w hSw => ?_) (by assumption) ?_
        rotate_left
        · (try dsimp only at hSw); go_simp; try with_reducible rfl
        try simp only [Act.put, List.setIfInBounds_toArray, List.set_cons_zero, List.set_cons_succ]
        refine held_take 7 (oi := _) (v := ?_) rfl (by kernel_rfl) (by kernel_rfl) (by kernel_rfl) (fun _ _ _ h => h) (by rfl) (fun w hSw => ?_) (by assumption) ?_
        rotate_left
        · (try dsimp only at hSw); go_simp; try with_reducible rfl
        try simp only [Act.put, List.setIfInBounds_toArray, List.set_cons_zero, List.set_cons_succ]
        refine held_take 9 (oi := _) (v := ?_) rfl (by kernel_rfl) (by kernel_rfl) (by kernel_rfl) (fun _ _ _ h => h) (by rfl) (fun w hSw => ?_) (by assumption) ?_
        rotate_left
        · (try dsimp only at hSw); go_simp; try with_reducible rfl
        try simp only [Act.put, List.setIfInBounds_toArray, List.set_cons_zero, List.set_cons_succ]
        refine held_take 10 (oi := _) (v := ?_) rfl (by kernel_rfl) (by kernel_rfl) (by kernel_rfl) (fun _ _ _ h => h) (by rfl) (fun w hSw => ?_) (by assumption) ?_
        rotate_left
        · (try dsimp only at hSw); go_simp; try with_reducible rfl
        try simp only [Act.put, List.setIfInBounds_toArray, List.set_cons_zero, List.set_cons_succ]
        refine held_take 11 (oi := _) (v := ?_) rfl (by kernel_rfl) (by kernel_rfl) (by kernel_rfl) (fun _ _ _ h => h) (by rfl) (fun w hSw => ?_) (by assumption) ?_
        rotate_left
        · (try dsimp only at hSw); go_simp; try with_reducible rfl
        try simp only [Act.put, List.setIfInBounds_toArray, List.set_cons_zero, List.set_cons_succ]
        refine held_take 12 (oi := _) (v := ?_) rfl (by kernel_rfl) (by kernel_rfl) (by kernel_rfl) (fun _ _ _ h => h) (by rfl) (fun w hSw => ?_) (by assumption) ?_
        rotate_left
        · (try dsimp only at hSw); go_simp; try with_reducible rfl
        try simp only [Act.put, List.setIfInBounds_toArray, List.set_cons_zero, List.set_cons_succ]
        refine held_take 13 (oi := _) (v := ?_) rfl (by kernel_rfl) (by kernel_rfl) (by kernel_rfl) (fun _ _ _ h => h) (by rfl) (fun w hSw => ?_) (by assumption) ?_
        rotate_left
        · (try dsimp only at hSw); go_simp; try with_reducible rfl
        try simp only [Act.put, List.setIfInBounds_toArray, List.set_cons_zero, List.set_cons_succ]
        refine held_take 14 (oi := _) (v := ?_) rfl (by kernel_rfl) (by kernel_rfl) (by kernel_rfl) (fun _ _ _ h => h) (by rfl) (fun w hSw => ?_) (by assumption) ?_
        rotate_left
        · (try dsimp only at hSw); go_simp; try with_reducible rfl
        try simp only [Act.put, List.setIfInBounds_toArray, List.set_cons_zero, List.set_cons_succ]
        refine held_take 15 (oi := _) (v := ?_) rfl (by kernel_rfl) (by kernel_rfl) (by kernel_rfl) (fun _ _ _ h => h) (by rfl) (fun w hSw => ?_) (by assumption) ?_
        rotate_left
        · (try dsimp only at hSw); go_simp; try with_reducible rfl
        try simp only [Act.put, List.setIfInBounds_toArray, List.set_cons_zero, List.set_cons_succ]
        refine wpAnyH_ready (rs := [8]) (by kernel_rfl) (by simp) ?_
        refine held_cons 8 (o := _) rfl (fun KC hKC => ?_) AllReadyH.nil
        go_simp
        with_reducible refine Calls.mono (FK.out _) ?_
        rintro e1 wC ⟨rfl, kwC⟩
        have TC := Lib.hid (show Kept (fun _ => False) w20 wC from by first | exact ((Kept.refl _ _).drew).trans kwC (fun _ _ e => e))
        clear kwC
        dsimp only
        refine hKC.out _ _ ?_ (fun hHeld => ?_)
        · first | exact CELLS2.out _ D30.out.1.back (BW20.out.kept D30.out.2 (fun h => h.2.2 rfl)) | exact CELLS2.out _ (D20.out.1.back.trans TE.out (fun _ _ e => e)) (BW20.out.kept TE.out (fun e => e)) | exact CELLS2.out _ (D20.out.1.back.trans TC.out (fun _ _ e => e)) (BW20.out.kept TC.out (fun e => e))
        clear hKC KC
        try simp only [Act.put, List.setIfInBounds_toArray, List.set_cons_zero, List.set_cons_succ]
        refine wpAnyH_ready (rs := [16]) (by kernel_rfl) (by simp) ?_
        refine held_cons 16 (o := _) rfl (fun KC hKC => ?_) AllReadyH.nil
        go_simp
        with_reducible refine Calls.mono (FV.out _) ?_
        rintro e1 wE ⟨rfl, kwE⟩
        have TE := Lib.hid (show Kept (fun _ => False) w20 wE from by first | exact TC.out.trans kwE (fun _ _ e => e))
        clear kwE
        dsimp only
        refine hKC.out _ _ ?_ (fun hHeld => ?_)
        · first | exact CELLS2.out _ D30.out.1.back (BW20.out.kept D30.out.2 (fun h => h.2.2 rfl)) | exact CELLS2.out _ (D20.out.1.back.trans TE.out (fun _ _ e => e)) (BW20.out.kept TE.out (fun e => e)) | exact CELLS2.out _ (D20.out.1.back.trans TC.out (fun _ _ e => e)) (BW20.out.kept TC.out (fun e => e))
        clear hKC KC
        try simp only [Act.put, List.setIfInBounds_toArray, List.set_cons_zero, List.set_cons_succ]
        refine wpAnyH_ready (rs := [17]) (by kernel_rfl) (by simp) ?_
        refine held_cons 17 (o := _) rfl (fun KC hKC => ?_) AllReadyH.nil
        go_simp
        with_reducible refine Calls.mono (d2_upd2 (k := fitB ky K) (v := fitB vl V) D20.out.1 HXB.out TE.out (by rw [fitB_size]; omega) (by rw [fitB_size]; omega)) ?_
        rintro e1 w30 ⟨rfl, d30, k30⟩
        have D30 := Lib.hid (And.intro d30 k30)
        clear d30 k30
        dsimp only
        refine hKC.out _ _ ?_ (fun hHeld => ?_)
        · first | exact CELLS2.out _ D30.out.1.back (BW20.out.kept D30.out.2 (fun h => h.2.2 rfl)) | exact CELLS2.out _ (D20.out.1.back.trans TE.out (fun _ _ e => e)) (BW20.out.kept TE.out (fun e => e)) | exact CELLS2.out _ (D20.out.1.back.trans TC.out (fun _ _ e => e)) (BW20.out.kept TC.out (fun e => e))
        clear hKC KC
        try simp only [Act.put, List.setIfInBounds_toArray, List.set_cons_zero, List.set_cons_succ]
        refine wpAnyH_done (by kernel_rfl) (NoPanic.normal ?_) _
        gi_wp2_with fail
        go_roundw
        case rel =>
          refine ⟨k + 1, updP m (fitB ky K) (fitB vl V) 0 P, by omega, by omega, by go_num, ?_, BW20.out.kept D30.out.2 (fun h => h.2.2 rfl)⟩
          have h := D30.out.1
          rw [← ordP_upd D.out.nodup] at h
          exact h
        case measure => simp [intOf]; omega
      ·
        go_simp
        with_reducible refine Calls.mono (FV.out _) ?_
        rintro e1 wB ⟨rfl, kwB⟩
        have TB := Lib.hid (show Kept (fun _ => False) wr wB from by first | exact T9.out.trans kwB (fun _ _ e => e) | exact TA.out.trans kwB (fun _ _ e => e) | exact ((Kept.refl _ _).twin ⟨rfl, rfl, rfl, rfl⟩).trans kwB (fun _ _ e => e))
        have KB := Lib.hid kwB
        clear kwB
        dsimp only
        refine hKC.out _ _ ?_ (fun hHeld => ?_)
        · first | exact CELLS.out _ D20.out.1.back | exact CELLS.out _ (D.out.back.trans T18.out (fun _ _ e => e)) | exact CELLS.out _ (D.out.back.trans T9.out (fun _ _ e => e)) | exact CELLS.out _ (D.out.back.trans TB.out (fun _ _ e => e)) | exact CELLS.out _ (D.out.back.trans TA.out (fun _ _ e => e))
        clear hKC KC
        try simp only [Act.put, List.setIfInBounds_toArray, List.set_cons_zero, List.set_cons_succ]
        refine wpAnyH_ready (rs := [9, 18]) (by kernel_rfl) (by simp) ?_
        refine held_cons 9 (o := _) rfl (fun KC hKC => ?_) (held_cons 18 (o := _) rfl (fun KC hKC => ?_) AllReadyH.nil)
        ·
          rw [if_pos (by rfl)]
          go_simp
          first | refine conv_abs (K := KC _) ?_ | refine conv_absD (K := KC _) ?_
          intro w9 kw9 bw9
          have T9 := Lib.hid (show Kept (fun _ => False) wr w9 from by first | exact T18.out.trans kw9 (fun _ _ e => e) | exact TB.out.trans kw9 (fun _ _ e => e) | exact TA.out.trans kw9 (fun _ _ e => e))
          have K9 := Lib.hid kw9
          have B9 := Lib.hid bw9
          clear kw9 bw9
          refine hKC.out _ _ ?_ (fun hHeld => ?_)
          · first | exact CELLS.out _ D20.out.1.back | exact CELLS.out _ (D.out.back.trans T18.out (fun _ _ e => e)) | exact CELLS.out _ (D.out.back.trans T9.out (fun _ _ e => e)) | exact CELLS.out _ (D.out.back.trans TB.out (fun _ _ e => e)) | exact CELLS.out _ (D.out.back.trans TA.out (fun _ _ e => e))
          clear hKC KC
          try simp only [Act.put, List.setIfInBounds_toArray, List.set_cons_zero, List.set_cons_succ]
          refine wpAnyH_ready (rs := [18]) (by kernel_rfl) (by simp) ?_
          refine held_cons 18 (o := _) rfl (fun KC hKC => ?_) AllReadyH.nil
          rw [if_pos (by rfl)]
          go_simp
          first | refine conv_abs (K := KC _) ?_ | refine conv_absD (K := KC _) ?_
          intro w18 kw18 bw18
          have T18 := Lib.hid (show Kept (fun _ => False) wr w18 from by first | exact T9.out.trans kw18 (fun _ _ e => e) | exact TB.out.trans kw18 (fun _ _ e => e))
          have K18 := Lib.hid kw18
          have B18 := Lib.hid bw18
          clear kw18 bw18
          refine hKC.out _ _ ?_ (fun hHeld => ?_)
          · first | exact CELLS.out _ D20.out.1.back | exact CELLS.out _ (D.out.back.trans T18.out (fun _ _ e => e)) | exact CELLS.out _ (D.out.back.trans T9.out (fun _ _ e => e)) | exact CELLS.out _ (D.out.back.trans TB.out (fun _ _ e => e)) | exact CELLS.out _ (D.out.back.trans TA.out (fun _ _ e => e))
          clear hKC KC
          try simp only [Act.put, List.setIfInBounds_toArray, List.set_cons_zero, List.set_cons_succ]
          refine wpAnyH_ready (rs := [19]) (by kernel_rfl) (by simp) ?_
          refine held_cons 19 (o := _) rfl (fun KC hKC => ?_) AllReadyH.nil
          go_simp
          with_reducible refine Calls.mono (d2_upd1 (k := fitB ky K) (v := fitB vl V) D.out (fun b hb => by rw [hb]; exact BW.out.lt) (by first | exact T18.out | exact T9.out) (by first | exact B9.out | exact B9.out.kept K18.out (fun _ _ _ e => e) | exact (B9.out.kept KB.out (fun _ _ _ e => e)).kept K18.out (fun _ _ _ e => e)) (by first | exact B18.out | exact B18.out.kept K9.out (fun _ _ _ e => e)) (fun b o e => .inl (by cases e; first | exact TB.out.size | exact T9.out.size))) ?_
          rintro e1 w20 ⟨rfl, d20, k20⟩
          have D20 := Lib.hid (And.intro d20 k20)
          clear d20 k20
          dsimp only
          refine hKC.out _ _ ?_ (fun hHeld => ?_)
          · first | exact CELLS.out _ D20.out.1.back | exact CELLS.out _ (D.out.back.trans T18.out (fun _ _ e => e)) | exact CELLS.out _ (D.out.back.trans T9.out (fun _ _ e => e)) | exact CELLS.out _ (D.out.back.trans TB.out (fun _ _ e => e)) | exact CELLS.out _ (D.out.back.trans TA.out (fun _ _ e => e))
          clear hKC KC
          try simp only [Act.put, List.setIfInBounds_toArray, List.set_cons_zero, List.set_cons_succ]
          refine wpAnyH_done (by kernel_rfl) (NoPanic.normal ?_) _
          have CELLS2 := Lib.hid (show ∀ w', Kept (fun _ => False) W0 w' → Box w' wb (.pointer (some ⟨br, 0, none⟩)) → w'.cell? ⟨q, 2, none⟩ = some (.int .i64 (K : Int)) ∧ w'.cell? ⟨q, 3, none⟩ = some (.int .i64 (V : Int)) ∧ w'.cell? ⟨b, o + k * 7 + 1, none⟩ = some (.string ky) ∧ w'.cell? ⟨b, o + k * 7 + 2, none⟩ = some (.string vl) ∧ w'.cell? ⟨wb, 0, none⟩ = some (.pointer (some ⟨br, 0, none⟩)) from fun w' kk bb => ⟨(CELLS.out w' kk).1, (CELLS.out w' kk).2.1, (CELLS.out w' kk).2.2.1, (CELLS.out w' kk).2.2.2, bb.cell⟩)
          have BW20 := Lib.hid (BW.out.kept D20.out.2 (fun h => h.2.2 rfl))
          have HXB := Lib.hid (show ∀ b, b = wb → b < w20.heap.size from fun b hb => by rw [hb]; exact BW20.out.lt)
          gi_wp2_with fail
          refine wpW_region_held (S := fun w' => w'.cell? ⟨q, 2, none⟩ = some (.int .i64 (K : Int)) ∧ w'.cell? ⟨q, 3, none⟩ = some (.int .i64 (V : Int)) ∧ w'.cell? ⟨b, o + k * 7 + 1, none⟩ = some (.string ky) ∧ w'.cell? ⟨b, o + k * 7 + 2, none⟩ = some (.string vl) ∧ w'.cell? ⟨wb, 0, none⟩ = some (.pointer (some ⟨br, 0, none⟩))) (by kernel_rfl) (by kernel_rfl) (by rintro ⟨_, _, h⟩; first | exact h.elim | (obtain ⟨h1, -⟩ := h; cases h1)) ?_ (fun hHeld => ?_)
          · exact CELLS2.out _ ((D20.out.1.back).trans ((Kept.refl _ _).twin ⟨rfl, rfl, rfl, rfl⟩) (fun _ _ e => e)) (BW20.out.twin ⟨rfl, rfl, rfl, rfl⟩)
          refine held_take 0 (oi := _) (v := ?_) rfl (by kernel_rfl) (by kernel_rfl) (by kernel_rfl) (fun _ _ _ h => h) (by rfl) (fun w hSw => ?_) (by assumption) ?_
          rotate_left
          · (try dsimp only at hSw); go_simp; try with_reducible rfl
          try simp only [Act.put, List.setIfInBounds_toArray, List.set_cons_zero, List.set_cons_succ]
          refine held_take 1 (oi := _) (v := ?_) rfl (by kernel_rfl) (by kernel_rfl) (by kernel_rfl) (fun _ _ _ h => h) (by rfl) (fun w hSw => ?_) (by assumption) ?_
          rotate_left
          · (try dsimp only at hSw); go_simp; try with_reducible rfl
          try simp only [Act.put, List.setIfInBounds_toArray, List.set_cons_zero, List.set_cons_succ]
          refine held_take 2 (oi := _) (v := ?_) rfl (by kernel_rfl) (by kernel_rfl) (by kernel_rfl) (fun _ _ _ h => h) (by rfl) (fun w hSw => ?_) (by assumption) ?_
          rotate_left
          · (try dsimp only at hSw); go_simp; try with_reducible rfl
          try simp only [Act.put, List.setIfInBounds_toArray, List.set_cons_zero, List.set_cons_succ]
          refine held_take 3 (oi := _) (v := ?_) rfl (by kernel_rfl) (by kernel_rfl) (by kernel_rfl) (fun _ _ _ h => h) (by rfl) (fun w hSw => ?_) (by assumption) ?_
          rotate_left
          · (try dsimp only at hSw); go_simp; try with_reducible rfl
          try simp only [Act.put, List.setIfInBounds_toArray, List.set_cons_zero, List.set_cons_succ]
          refine held_take 4 (oi := _) (v := ?_) rfl (by kernel_rfl) (by kernel_rfl) (by kernel_rfl) (fun _ _ _ h => h) (by rfl) (fun w hSw => ?_) (by assumption) ?_
          rotate_left
          · (try dsimp only at hSw); go_simp; try with_reducible rfl
          try simp only [Act.put, List.setIfInBounds_toArray, List.set_cons_zero, List.set_cons_succ]
          refine held_take 5 (oi := _) (v := ?_) rfl (by kernel_rfl) (by kernel_rfl) (by kernel_rfl) (fun _ _ _ h => h) (by rfl) (fun w hSw => ?_) (by assumption) ?_
          rotate_left
          · (try dsimp only at hSw); go_simp; try with_reducible rfl
          try simp only [Act.put, List.setIfInBounds_toArray, List.set_cons_zero, List.set_cons_succ]
          refine held_take 6 (oi := _) (v := ?_) rfl (by kernel_rfl) (by kernel_rfl) (by kernel_rfl) (fun _ _ _ h => h) (by rfl) (fun w hSw => ?_) (by assumption) ?_
          rotate_left
          · (try dsimp only at hSw); go_simp; try with_reducible rfl
          try simp only [Act.put, List.setIfInBounds_toArray, List.set_cons_zero, List.set_cons_succ]
          refine held_take 7 (oi := _) (v := ?_) rfl (by kernel_rfl) (by kernel_rfl) (by kernel_rfl) (fun _ _ _ h => h) (by rfl) (fun w hSw => ?_) (by assumption) ?_
          rotate_left
          · (try dsimp only at hSw); go_simp; try with_reducible rfl
          try simp only [Act.put, List.setIfInBounds_toArray, List.set_cons_zero, List.set_cons_succ]
          refine held_take 9 (oi := _) (v := ?_) rfl (by kernel_rfl) (by kernel_rfl) (by kernel_rfl) (fun _ _ _ h => h) (by rfl) (fun w hSw => ?_) (by assumption) ?_
          rotate_left
          · (try dsimp only at hSw); go_simp; try with_reducible rfl
          try simp only [Act.put, List.setIfInBounds_toArray, List.set_cons_zero, List.set_cons_succ]
          refine held_take 10 (oi := _) (v := ?_) rfl (by kernel_rfl) (by kernel_rfl) (by kernel_rfl) (fun _ _ _ h => h) (by rfl) (fun w hSw => ?_) (by assumption) ?_
          rotate_left
          · (try dsimp only at hSw); go_simp; try with_reducible rfl
          try simp only [Act.put, List.setIfInBounds_toArray, List.set_cons_zero, List.set_cons_succ]
          refine held_take 11 (oi := _) (v := ?_) rfl (by kernel_rfl) (by kernel_rfl) (by kernel_rfl) (fun _ _ _ h => h) (by rfl) (fun w hSw => ?_) (by assumption) ?_
          rotate_left
          · (try dsimp only at hSw); go_simp; try with_reducible rfl
          try simp only [Act.put, List.setIfInBounds_toArray, List.set_cons_zero, List.set_cons_succ]
          refine held_take 12 (oi := _) (v := ?_) rfl (by kernel_rfl) (by kernel_rfl) (by kernel_rfl) (fun _ _ _ h => h) (by rfl) (fun w hSw => ?_) (by assumption) ?_
          rotate_left
          · (try dsimp only at hSw); go_simp; try with_reducible rfl
          try simp only [Act.put, List.setIfInBounds_toArray, List.set_cons_zero, List.set_cons_succ]
          refine held_take 13 (oi := _) (v := ?_) rfl (by kernel_rfl) (by kernel_rfl) (by kernel_rfl) (fun _ _ _ h => h) (by rfl) (fun w hSw => ?_) (by assumption) ?_
          rotate_left
          · (try dsimp only at hSw); go_simp; try with_reducible rfl
          try simp only [Act.put, List.setIfInBounds_toArray, List.set_cons_zero, List.set_cons_succ]
          refine held_take 14 (oi := _) (v := ?_) rfl (by kernel_rfl) (by kernel_rfl) (by kernel_rfl) (fun _ _ _ h => h) (by rfl) (fun w hSw => ?_) (by assumption) ?_
          rotate_left
          · (try dsimp only at hSw); go_simp; try with_reducible rfl
          try simp only [Act.put, List.setIfInBounds_toArray, List.set_cons_zero, List.set_cons_succ]
          refine held_take 15 (oi := _) (v := ?_) rfl (by kernel_rfl) (by kernel_rfl) (by kernel_rfl) (fun _ _ _ h => h) (by rfl) (fun w hSw => ?_) (by assumption) ?_
          rotate_left
          · (try dsimp only at hSw); go_simp; try with_reducible rfl
          try simp only [Act.put, List.setIfInBounds_toArray, List.set_cons_zero, List.set_cons_succ]
          refine wpAnyH_ready (rs := [8]) (by kernel_rfl) (by simp) ?_
          refine held_cons 8 (o := _) rfl (fun KC hKC => ?_) AllReadyH.nil
          go_simp
          with_reducible refine Calls.mono (FK.out _) ?_
          rintro e1 wC ⟨rfl, kwC⟩
          have TC := Lib.hid (show Kept (fun _ => False) w20 wC from by first | exact ((Kept.refl _ _).drew).trans kwC (fun _ _ e => e))
          clear kwC
          dsimp only
          refine hKC.out _ _ ?_ (fun hHeld => ?_)
          · first | exact CELLS2.out _ D30.out.1.back (BW20.out.kept D30.out.2 (fun h => h.2.2 rfl)) | exact CELLS2.out _ (D20.out.1.back.trans TE.out (fun _ _ e => e)) (BW20.out.kept TE.out (fun e => e)) | exact CELLS2.out _ (D20.out.1.back.trans TC.out (fun _ _ e => e)) (BW20.out.kept TC.out (fun e => e))
          clear hKC KC
          try simp only [Act.put, List.setIfInBounds_toArray, List.set_cons_zero, List.set_cons_succ]
          refine wpAnyH_ready (rs := [16]) (by kernel_rfl) (by simp) ?_
          refine held_cons 16 (o := _) rfl (fun KC hKC => ?_) AllReadyH.nil
          go_simp
          with_reducible refine Calls.mono (FV.out _) ?_
          rintro e1 wE ⟨rfl, kwE⟩
          have TE := Lib.hid (show Kept (fun _ => False) w20 wE from by first | exact TC.out.trans kwE (fun _ _ e => e))
          clear kwE
          dsimp only
          refine hKC.out _ _ ?_ (fun hHeld => ?_)
          · first | exact CELLS2.out _ D30.out.1.back (BW20.out.kept D30.out.2 (fun h => h.2.2 rfl)) | exact CELLS2.out _ (D20.out.1.back.trans TE.out (fun _ _ e => e)) (BW20.out.kept TE.out (fun e => e)) | exact CELLS2.out _ (D20.out.1.back.trans TC.out (fun _ _ e => e)) (BW20.out.kept TC.out (fun e => e))
          clear hKC KC
          try simp only [Act.put, List.setIfInBounds_toArray, List.set_cons_zero, List.set_cons_succ]
          refine wpAnyH_ready (rs := [17]) (by kernel_rfl) (by simp) ?_
          refine held_cons 17 (o := _) rfl (fun KC hKC => ?_) AllReadyH.nil
          go_simp
          with_reducible refine Calls.mono (d2_upd2 (k := fitB ky K) (v := fitB vl V) D20.out.1 HXB.out TE.out (by rw [fitB_size]; omega) (by rw [fitB_size]; omega)) ?_
          rintro e1 w30 ⟨rfl, d30, k30⟩
          have D30 := Lib.hid (And.intro d30 k30)
          clear d30 k30
          dsimp only
          refine hKC.out _ _ ?_ (fun hHeld => ?_)
          · first | exact CELLS2.out _ D30.out.1.back (BW20.out.kept D30.out.2 (fun h => h.2.2 rfl)) | exact CELLS2.out _ (D20.out.1.back.trans TE.out (fun _ _ e => e)) (BW20.out.kept TE.out (fun e => e)) | exact CELLS2.out _ (D20.out.1.back.trans TC.out (fun _ _ e => e)) (BW20.out.kept TC.out (fun e => e))
          clear hKC KC
          try simp only [Act.put, List.setIfInBounds_toArray, List.set_cons_zero, List.set_cons_succ]
          refine wpAnyH_done (by kernel_rfl) (NoPanic.normal ?_) _
          gi_wp2_with fail
          go_roundw
          case rel =>
            refine ⟨k + 1, updP m (fitB ky K) (fitB vl V) 0 P, by omega, by omega, by go_num, ?_, BW20.out.kept D30.out.2 (fun h => h.2.2 rfl)⟩
            have h := D30.out.1
            rw [← ordP_upd D.out.nodup] at h
            exact h
          case measure => simp [intOf]; omega
        ·
          rw [if_pos (by rfl)]
          go_simp
          first | refine conv_abs (K := KC _) ?_ | refine conv_absD (K := KC _) ?_
          intro w18 kw18 bw18
          have T18 := Lib.hid (show Kept (fun _ => False) wr w18 from by first | exact T9.out.trans kw18 (fun _ _ e => e) | exact TB.out.trans kw18 (fun _ _ e => e))
          have K18 := Lib.hid kw18
          have B18 := Lib.hid bw18
          clear kw18 bw18
          refine hKC.out _ _ ?_ (fun hHeld => ?_)
          · first | exact CELLS.out _ D20.out.1.back | exact CELLS.out _ (D.out.back.trans T18.out (fun _ _ e => e)) | exact CELLS.out _ (D.out.back.trans T9.out (fun _ _ e => e)) | exact CELLS.out _ (D.out.back.trans TB.out (fun _ _ e => e)) | exact CELLS.out _ (D.out.back.trans TA.out (fun _ _ e => e))
          clear hKC KC
          try simp only [Act.put, List.setIfInBounds_toArray, List.set_cons_zero, List.set_cons_succ]
          refine wpAnyH_ready (rs := [9]) (by kernel_rfl) (by simp) ?_
          refine held_cons 9 (o := _) rfl (fun KC hKC => ?_) AllReadyH.nil
          rw [if_pos (by rfl)]
          go_simp
          first | refine conv_abs (K := KC _) ?_ | refine conv_absD (K := KC _) ?_
          intro w9 kw9 bw9
          have T9 := Lib.hid (show Kept (fun _ => False) wr w9 from by first | exact T18.out.trans kw9 (fun _ _ e => e) | exact TB.out.trans kw9 (fun _ _ e => e) | exact TA.out.trans kw9 (fun _ _ e => e))
          have K9 := Lib.hid kw9
          have B9 := Lib.hid bw9
          clear kw9 bw9
          refine hKC.out _ _ ?_ (fun hHeld => ?_)
          · first | exact CELLS.out _ D20.out.1.back | exact CELLS.out _ (D.out.back.trans T18.out (fun _ _ e => e)) | exact CELLS.out _ (D.out.back.trans T9.out (fun _ _ e => e)) | exact CELLS.out _ (D.out.back.trans TB.out (fun _ _ e => e)) | exact CELLS.out _ (D.out.back.trans TA.out (fun _ _ e => e))
          clear hKC KC
          try simp only [Act.put, List.setIfInBounds_toArray, List.set_cons_zero, List.set_cons_succ]
          refine wpAnyH_ready (rs := [19]) (by kernel_rfl) (by simp) ?_
          refine held_cons 19 (o := _) rfl (fun KC hKC => ?_) AllReadyH.nil
          go_simp
          with_reducible refine Calls.mono (d2_upd1 (k := fitB ky K) (v := fitB vl V) D.out (fun b hb => by rw [hb]; exact BW.out.lt) (by first | exact T18.out | exact T9.out) (by first | exact B9.out | exact B9.out.kept K18.out (fun _ _ _ e => e) | exact (B9.out.kept KB.out (fun _ _ _ e => e)).kept K18.out (fun _ _ _ e => e)) (by first | exact B18.out | exact B18.out.kept K9.out (fun _ _ _ e => e)) (fun b o e => .inl (by cases e; first | exact TB.out.size | exact T9.out.size))) ?_
          rintro e1 w20 ⟨rfl, d20, k20⟩
          have D20 := Lib.hid (And.intro d20 k20)
          clear d20 k20
          dsimp only
          refine hKC.out _ _ ?_ (fun hHeld => ?_)
          · first | exact CELLS.out _ D20.out.1.back | exact CELLS.out _ (D.out.back.trans T18.out (fun _ _ e => e)) | exact CELLS.out _ (D.out.back.trans T9.out (fun _ _ e => e)) | exact CELLS.out _ (D.out.back.trans TB.out (fun _ _ e => e)) | exact CELLS.out _ (D.out.back.trans TA.out (fun _ _ e => e))
          clear hKC KC
          try simp only [Act.put, List.setIfInBounds_toArray, List.set_cons_zero, List.set_cons_succ]
          refine wpAnyH_done (by kernel_rfl) (NoPanic.normal ?_) _
          have CELLS2 := Lib.hid (show ∀ w', Kept (fun _ => False) W0 w' → Box w' wb (.pointer (some ⟨br, 0, none⟩)) → w'.cell? ⟨q, 2, none⟩ = some (.int .i64 (K : Int)) ∧ w'.cell? ⟨q, 3, none⟩ = some (.int .i64 (V : Int)) ∧ w'.cell? ⟨b, o + k * 7 + 1, none⟩ = some (.string ky) ∧ w'.cell? ⟨b, o + k * 7 + 2, none⟩ = some (.string vl) ∧ w'.cell? ⟨wb, 0, none⟩ = some (.pointer (some ⟨br, 0, none⟩)) from fun w' kk bb => ⟨(CELLS.out w' kk).1, (CELLS.out w' kk).2.1, (CELLS.out w' kk).2.2.1, (CELLS.out w' kk).2.2.2, bb.cell⟩)
          have BW20 := Lib.hid (BW.out.kept D20.out.2 (fun h => h.2.2 rfl))
          have HXB := Lib.hid (show ∀ b, b = wb → b < w20.heap.size from fun b hb => by rw [hb]; exact BW20.out.lt)
          gi_wp2_with fail
          refine wpW_region_held (S := fun w' => w'.cell? ⟨q, 2, none⟩ = some (.int .i64 (K : Int)) ∧ w'.cell? ⟨q, 3, none⟩ = some (.int .i64 (V : Int)) ∧ w'.cell? ⟨b, o + k * 7 + 1, none⟩ = some (.string ky) ∧ w'.cell? ⟨b, o + k * 7 + 2, none⟩ = some (.string vl) ∧ w'.cell? ⟨wb, 0, none⟩ = some (.pointer (some ⟨br, 0, none⟩))) (by kernel_rfl) (by kernel_rfl) (by rintro ⟨_, _, h⟩; first | exact h.elim | (obtain ⟨h1, -⟩ := h; cases h1)) ?_ (fun hHeld => ?_)
          · exact CELLS2.out _ ((D20.out.1.back).trans ((Kept.refl _ _).twin ⟨rfl, rfl, rfl, rfl⟩) (fun _ _ e => e)) (BW20.out.twin ⟨rfl, rfl, rfl, rfl⟩)
          refine held_take 0 (oi := _) (v := ?_) rfl (by kernel_rfl) (by kernel_rfl) (by kernel_rfl) (fun _ _ _ h => h) (by rfl) (fun w hSw => ?_) (by assumption) ?_
          rotate_left
          · (try dsimp only at hSw); go_simp; try with_reducible rfl
          try simp only [Act.put, List.setIfInBounds_toArray, List.set_cons_zero, List.set_cons_succ]
          refine held_take 1 (oi := _) (v := ?_) rfl (by kernel_rfl) (by kernel_rfl) (by kernel_rfl) (fun _ _ _ h => h) (by rfl) (fun w hSw => ?_) (by assumption) ?_
          rotate_left
          · (try dsimp only at hSw); go_simp; try with_reducible rfl
          try simp only [Act.put, List.setIfInBounds_toArray, List.set_cons_zero, List.set_cons_succ]
          refine held_take 2 (oi := _) (v := ?_) rfl (by kernel_rfl) (by kernel_rfl) (by kernel_rfl) (fun _ _ _ h => h) (by rfl) (fun w hSw => ?_) (by assumption) ?_
          rotate_left
          · (try dsimp only at hSw); go_simp; try with_reducible rfl
          try simp only [Act.put, List.setIfInBounds_toArray, List.set_cons_zero, List.set_cons_succ]
          refine held_take 3 (oi := _) (v := ?_) rfl (by kernel_rfl) (by kernel_rfl) (by kernel_rfl) (fun _ _ _ h => h) (by rfl) (fun w hSw => ?_) (by assumption) ?_
          rotate_left
          · (try dsimp only at hSw); go_simp; try with_reducible rfl
          try simp only [Act.put, List.setIfInBounds_toArray, List.set_cons_zero, List.set_cons_succ]
          refine held_take 4 (oi := _) (v := ?_) rfl (by kernel_rfl) (by kernel_rfl) (by kernel_rfl) (fun _ _ _ h => h) (by rfl) (fun w hSw => ?_) (by assumption) ?_
          rotate_left
          · (try dsimp only at hSw); go_simp; try with_reducible rfl
          try simp only [Act.put, List.setIfInBounds_toArray, List.set_cons_zero, List.set_cons_succ]
          refine held_take 5 (oi := _) (v := ?_) rfl (by kernel_rfl) (by kernel_rfl) (by kernel_rfl) (fun _ _ _ h => h) (by rfl) (fun w hSw => ?_) (by assumption) ?_
          rotate_left
          · (try dsimp only at hSw); go_simp; try with_reducible rfl
          try simp only [Act.put, List.setIfInBounds_toArray, List.set_cons_zero, List.set_cons_succ]
          refine held_take 6 (oi := _) (v := ?_) rfl (by kernel_rfl) (by kernel_rfl) (by kernel_rfl) (fun _ _ _ h => h) (by rfl) (fun w hSw => ?_) (by assumption) ?_
          rotate_left
          · (try dsimp only at hSw); go_simp; try with_reducible rfl
          try simp only [Act.put, List.setIfInBounds_toArray, List.set_cons_zero, List.set_cons_succ]
          refine held_take 7 (oi := _) (v := ?_) rfl (by kernel_rfl) (by kernel_rfl) (by kernel_rfl) (fun _ _ _ h => h) (by rfl) (fun w hSw => ?_) (by assumption) ?_
          rotate_left
          · (try dsimp only at hSw); go_simp; try with_reducible rfl
          try simp only [Act.put, List.setIfInBounds_toArray, List.set_cons_zero, List.set_cons_succ]
          refine held_take 9 (oi := _) (v := ?_) rfl (by kernel_rfl) (by kernel_rfl) (by kernel_rfl) (fun _ _ _ h => h) (by rfl) (fun w hSw => ?_) (by assumption) ?_
          rotate_left
          · (try dsimp only at hSw); go_simp; try with_reducible rfl
          try simp only [Act.put, List.setIfInBounds_toArray, List.set_cons_zero, List.set_cons_succ]
          refine held_take 10 (oi := _) (v := ?_) rfl (by kernel_rfl) (by kernel_rfl) (by kernel_rfl) (fun _ _ _ h => h) (by rfl) (fun w hSw => ?_) (by assumption) ?_
          rotate_left
          · (try dsimp only at hSw); go_simp; try with_reducible rfl
          try simp only [Act.put, List.setIfInBounds_toArray, List.set_cons_zero, List.set_cons_succ]
          refine held_take 11 (oi := _) (v := ?_) rfl (by kernel_rfl) (by kernel_rfl) (by kernel_rfl) (fun _ _ _ h => h) (by rfl) (fun w hSw => ?_) (by assumption) ?_
          rotate_left
          · (try dsimp only at hSw); go_simp; try with_reducible rfl
          try simp only [Act.put, List.setIfInBounds_toArray, List.set_cons_zero, List.set_cons_succ]
          refine held_take 12 (oi := _) (v := ?_) rfl (by kernel_rfl) (by kernel_rfl) (by kernel_rfl) (fun _ _ _ h => h) (by rfl) (fun w hSw => ?_) (by assumption) ?_
          rotate_left
          · (try dsimp only at hSw); go_simp; try with_reducible rfl
          try simp only [Act.put, List.setIfInBounds_toArray, List.set_cons_zero, List.set_cons_succ]
          refine held_take 13 (oi := _) (v := ?_) rfl (by kernel_rfl) (by kernel_rfl) (by kernel_rfl) (fun _ _ _ h => h) (by rfl) (fun w hSw => ?_) (by assumption) ?_
          rotate_left
          · (try dsimp only at hSw); go_simp; try with_reducible rfl
          try simp only [Act.put, List.setIfInBounds_toArray, List.set_cons_zero, List.set_cons_succ]
          refine held_take 14 (oi := _) (v := ?_) rfl (by kernel_rfl) (by kernel_rfl) (by kernel_rfl) (fun _ _ _ h => h) (by rfl) (fun w hSw => ?_) (by assumption) ?_
          rotate_left
          · (try dsimp only at hSw); go_simp; try with_reducible rfl
          try simp only [Act.put, List.setIfInBounds_toArray, List.set_cons_zero, List.set_cons_succ]
          refine held_take 15 (oi := _) (v := ?_) rfl (by kernel_rfl) (by kernel_rfl) (by kernel_rfl) (fun _ _ _ h => h) (by rfl) (fun w hSw => ?_) (by assumption) ?_
          rotate_left
          · (try dsimp only at hSw); go_simp; try with_reducible rfl
          try simp only [Act.put, List.setIfInBounds_toArray, List.set_cons_zero, List.set_cons_succ]
          refine wpAnyH_ready (rs := [8]) (by kernel_rfl) (by simp) ?_
          refine held_cons 8 (o := _) rfl (fun KC hKC => ?_) AllReadyH.nil
          go_simp
          with_reducible refine Calls.mono (FK.out _) ?_
          rintro e1 wC ⟨rfl, kwC⟩
          have TC := Lib.hid (show Kept (fun _ => False) w20 wC from by first | exact ((Kept.refl _ _).drew).trans kwC (fun _ _ e => e))
          clear kwC
          dsimp only
          refine hKC.out _ _ ?_ (fun hHeld => ?_)
          · first | exact CELLS2.out _ D30.out.1.back (BW20.out.kept D30.out.2 (fun h => h.2.2 rfl)) | exact CELLS2.out _ (D20.out.1.back.trans TE.out (fun _ _ e => e)) (BW20.out.kept TE.out (fun e => e)) | exact CELLS2.out _ (D20.out.1.back.trans TC.out (fun _ _ e => e)) (BW20.out.kept TC.out (fun e => e))
          clear hKC KC
          try simp only [Act.put, List.setIfInBounds_toArray, List.set_cons_zero, List.set_cons_succ]
          refine wpAnyH_ready (rs := [16]) (by kernel_rfl) (by simp) ?_
          refine held_cons 16 (o := _) rfl (fun KC hKC => ?_) AllReadyH.nil
          go_simp
          with_reducible refine Calls.mono (FV.out _) ?_
          rintro e1 wE ⟨rfl, kwE⟩
          have TE := Lib.hid (show Kept (fun _ => False) w20 wE from by first | exact TC.out.trans kwE (fun _ _ e => e))
          clear kwE
          dsimp only
          refine hKC.out _ _ ?_ (fun hHeld => ?_)
          · first | exact CELLS2.out _ D30.out.1.back (BW20.out.kept D30.out.2 (fun h => h.2.2 rfl)) | exact CELLS2.out _ (D20.out.1.back.trans TE.out (fun _ _ e => e)) (BW20.out.kept TE.out (fun e => e)) | exact CELLS2.out _ (D20.out.1.back.trans TC.out (fun _ _ e => e)) (BW20.out.kept TC.out (fun e => e))
          clear hKC KC
          try simp only [Act.put, List.setIfInBounds_toArray, List.set_cons_zero, List.set_cons_succ]
          refine wpAnyH_ready (rs := [17]) (by kernel_rfl) (by simp) ?_
          refine held_cons 17 (o := _) rfl (fun KC hKC => ?_) AllReadyH.nil
          go_simp
          with_reducible refine Calls.mono (d2_upd2 (k := fitB ky K) (v := fitB vl V) D20.out.1 HXB.out TE.out (by rw [fitB_size]; omega) (by rw [fitB_size]; omega)) ?_
          rintro e1 w30 ⟨rfl, d30, k30⟩
          have D30 := Lib.hid (And.intro d30 k30)
          clear d30 k30
          dsimp only
          refine hKC.out _ _ ?_ (fun hHeld => ?_)
          · first | exact CELLS2.out _ D30.out.1.back (BW20.out.kept D30.out.2 (fun h => h.2.2 rfl)) | exact CELLS2.out _ (D20.out.1.back.trans TE.out (fun _ _ e => e)) (BW20.out.kept TE.out (fun e => e)) | exact CELLS2.out _ (D20.out.1.back.trans TC.out (fun _ _ e => e)) (BW20.out.kept TC.out (fun e => e))
          clear hKC KC
          try simp only [Act.put, List.setIfInBounds_toArray, List.set_cons_zero, List.set_cons_succ]
          refine wpAnyH_done (by kernel_rfl) (NoPanic.normal ?_) _
          gi_wp2_with fail
          go_roundw
          case rel =>
            refine ⟨k + 1, updP m (fitB ky K) (fitB vl V) 0 P, by omega, by omega, by go_num, ?_, BW20.out.kept D30.out.2 (fun h => h.2.2 rfl)⟩
            have h := D30.out.1
            rw [← ordP_upd D.out.nodup] at h
            exact h
          case measure => simp [intOf]; omega
    · have hsp : (k < n ∧ k = 30) ∨ ¬ k < n := by omega
      obtain ⟨nn, hnn, hnn16⟩ := mask_nat x 4 (by omega) 15 (by decide)
      obtain ⟨nb, hnb⟩ : ∃ nb, W.heap.size = nb := ⟨_, rfl⟩
      obtain ⟨rb, hrb⟩ : ∃ rb, W.heap.size + 1 = rb := ⟨_, rfl⟩
      have hbx := RB.out
      rw [hrb, hnb] at hbx
      have hnbl : nb < W0.heap.size := Nat.lt_of_lt_of_le hbx.1.lt KW.out.size
      have hrbl : rb < W0.heap.size := Nat.lt_of_lt_of_le hbx.2.1.lt KW.out.size
      have hwbl : W0.heap.size ≤ wb := WBL.out
      have bn := (hbx.1.kept KW.out (fun e => e)).kept D.out.back (fun e => e)
      have brr := (hbx.2.1.kept KW.out (fun e => e)).kept D.out.back (fun e => e)
      have hcn := bn.cell
      have hfn := bn.frozen
      have hcs : bits .and .i64 x 15 = (nn : Int) := hnn
      rw [hrb, hnb]
      have D1 := D.out.lowX (hbx.2.2.trans KW.out (fun _ _ e => e))
      obtain ⟨tb, htb⟩ : ∃ tb, wr.heap.size = tb := ⟨_, rfl⟩
      have hzs : (wr.setCell ⟨nb, 0, none⟩ (.int .i64 (nn : Int))).heap.size = tb := by rw [← htb]; simp [World.setCell]
      have D4 := (D1.keepX (Kept.one_set wr ⟨nb, 0, none⟩ (.int .i64 (nn : Int))) (fun b hb => .inl (by have hb : b = nb := hb; exact ⟨.inr (by omega), by omega⟩))).more (Y := fun b => (b = wb ∨ b < W0.heap.size) ∨ b = tb) (fun b hb => hb.imp id (fun e => by rw [hzs]; omega))
      obtain ⟨W5, hW5⟩ : ∃ W5, (wr.setCell ⟨nb, 0, none⟩ (.int .i64 (nn : Int))).alloc (.cells #[.int .i64 0] 3) = W5 := ⟨_, rfl⟩
      have k45 := Kept.one_alloc (wr.setCell ⟨nb, 0, none⟩ (.int .i64 (nn : Int))) (.cells #[.int .i64 0] 3)
      have hD5 := D4.keep k45
      have hwbn : wb ≠ nb := by omega
      have hwbt : wb < tb := by rw [← htb]; exact BW.out.lt
      have b1 : Box W5 nb (.int .i64 (nn : Int)) := by rw [← hW5]; exact (bn.set _).kept k45 (fun e => e)
      have b2 : Box W5 rb (.bool false) := by rw [← hW5]; exact (brr.other _ (by omega)).kept k45 (fun e => e)
      have b3 : Box W5 wb (.pointer (some ⟨br, 0, none⟩)) := by rw [← hW5]; exact (BW.out.other _ hwbn).kept k45 (fun e => e)
      have b4 : Box W5 tb (.int .i64 ((0 : Nat) : Int)) := by rw [← hW5, ← hzs]; exact Box.new _ _ 3
      rw [hW5] at hD5
      have D5 := Lib.hid hD5
      have htbW : W.heap.size ≤ tb := by omega
      have BXS := Lib.hid (show Box W5 nb (.int .i64 (nn : Int)) ∧ Box W5 rb (.bool false) ∧ Box W5 wb (.pointer (some ⟨br, 0, none⟩)) ∧ tb ≠ wb ∧ (nb < tb ∧ rb < tb ∧ wb < tb ∧ W.heap.size ≤ nb ∧ W.heap.size ≤ rb ∧ tb < W5.heap.size) from ⟨b1, b2, b3, by omega, by omega, by omega, hwbt, by omega, by omega, b4.lt⟩)
      have HWW := Lib.hid (And.intro hW5 (And.intro hzs htb))
      clear c2 c3 bn brr hbx D1 D4 hD5 b1 b2 b3 k45 hW5 hzs htb hnn hwbn hwbt hnb hrb
      rcases hsp with ⟨hlt2, rfl⟩ | hlt2
      all_goals
        gi_wp2_with fail
        try rw [HWW.out.2.2]
        rw [HWW.out.1]
        have hNd := D5.out.nodup
        obtain ⟨Ft, Fr, hs, hr, -, hat⟩ := D5.out.ex
        obtain ⟨iv, E, F, hT, hE, hF⟩ := hs
        obtain ⟨lv, E2, hR, hE2, hF2⟩ := hr
        have hkv : kvs (ordT m E) = kvs E2 := by
          rw [hE2, ← hE]
          exact ordT_kvs hT.keys
        obtain ⟨N, hN⟩ : ∃ N, E2.length = N := ⟨_, rfl⟩
        have hN2 : (ordT m E).length = N := by rw [← hN, ← kvs_len, ← kvs_len, hkv]
        have hQN : (ordP m P).length = N := by rw [← hN, ← kvs_len, hE2]
        have hNmx : N ≤ 1024 := by rw [← hN]; exact hR.mx
        obtain ⟨la, lc, rfl, -⟩ := own_form hR.own
        have HN := Lib.hid (And.intro hN2 hQN)
        have HFR := Lib.hid (show (∀ b, Tfp bt E F b → b < tb) ∧ (∀ b, Rtfp br (.slice la E2.length lc) E2 b → b < tb) from by
          have key : ∀ b, Ft b ∨ Fr b → b < tb := fun b hb => by
            have h1 := hat b hb
            have h2 := HWW.out.1
            have h3 : W5.heap.size = tb + 1 := by rw [← h2, World.size_alloc, HWW.out.2.1]
            have h4 : b ≠ tb := fun e => h1.2.2 (.inr e)
            omega
          exact ⟨fun b hb => key b (.inl (hF b hb)), fun b hb => key b (.inr (hF2 b hb))⟩)
        refine callsIn_WR.2 ((all_any bt W5).mono ?_)
        rintro e W6 ⟨bx, rfl, hbx, k6, g6⟩
        have hnf := run_eq_nilFunc (P := Try.prog) W6 (.func 38) #[] #[.pointer (some ⟨bx, 0, none⟩)] Try.underlying48
        have hRd : AllRd bx bt m iv E F W6 := ⟨hbx.cell, hbx.lt, (hT.kept k6 (fun _ _ e => e)).allR⟩
        have HR := Lib.hid (And.intro hR (And.intro hkv hN))
        have b5 : Box W6 tb (.int .i64 ((0 : Nat) : Int)) := by
          have h : Box W5 tb (.int .i64 ((0 : Nat) : Int)) := by rw [← HWW.out.1, ← HWW.out.2.1]; exact Box.new _ _ 3
          exact h.kept k6 (fun e => e)
        have H6 := Lib.hid (And.intro hRd (And.intro k6 (And.intro g6 b5)))
        clear hRd hbx k6 g6 b5 hat hT hE hF hR hE2 hF2 hkv hN hN2 hQN
        gi_wp2_with fail
        refine wpW_rangeG (all1_any bx bt m iv E F) rfl all_enters (fun _ => by rfl) (fun (pre : List En) U W' => CountO tb pre.length U W' ∧ pre.length ≤ nn) (fun c U W' => c = .exit 2 ∧ CountO tb nn U W' ∧ nn ≤ N) (fun b => b = tb)
          (fun (pre : List En) U W W' h k => ⟨CountO.kept h.1 k, h.2⟩) (fun c U W W' h k => ⟨h.1, CountO.kept h.2.1 k, h.2.2⟩) ?_ ?_ ?_ H6.out.1 (fun W W' h k => h.kept k (fun e => e (.inl rfl)) (fun b hb e => e (.inr hb))) ⟨⟨H6.out.2.2.2, rfl⟩, Nat.zero_le _⟩ ?_ ?_ ?_
        · rintro b rfl (h | h)
          · have := H6.out.2.2.1; have := BXS.out; omega
          · have := HFR.out.1 b (h.imp id (fun h => h.imp id (fun ⟨x, hx, e⟩ => ⟨x, hx, .inl e⟩)))
            omega
        · rintro b (rfl | h)
          · exact H6.out.1.2.1
          · exact H6.out.1.2.2.dlt b h
        · rintro b rfl
          exact H6.out.2.2.2.lt
        · intro l pre e rest U' W7 hitems hi hkw hlt' hD' hRd' hl hlD hlW hlw hUU
          obtain ⟨y, hy, hyk, hyv⟩ := two_at HR.out.2.1 hitems.symm
          have hj : pre.length < N := by rw [← HN.out.1, ← hitems]; simp <;> omega
          have LK := Lib.hid (And.intro hlt' (And.intro hl (And.intro hkw (And.intro hlw (And.intro hi hlW)))))
          have HY := Lib.hid (And.intro hy (And.intro hyk hyv))
          clear hi hlt' hD' hRd' hlD hkw hitems hnf hl hlw hUU hy hyk hyv hlW
          simp only [encE, List.zip_toArray, List.zip_cons_cons, List.zip_nil_left, List.foldl_toArray', List.foldl_cons, List.foldl_nil, List.setIfInBounds_toArray, List.set_cons_succ, List.set_cons_zero]
          gi_wp2_with (rw [Oper.semAt_eq _ _ _ (fun c h => by cases h)]; go_simp; try go_bits)
          refine ⟨trivial, ?_⟩
          intro W8 kl zl
          have hi8 := CountO.kept LK.out.2.2.2.2.1.1 (kl.mono fun b _ e h => by subst e; exact LK.out.2.1 h)
          have hlenn := LK.out.2.2.2.2.1.2
          obtain ⟨j2, hj2⟩ : ∃ j2, pre.length = j2 := ⟨_, rfl⟩
          rw [hj2] at hi8 hj hlenn
          have k58 : Kept (fun b => tb ≤ b) W5 W8 := by
            have h2 := H6.out.2.1.size
            have h3 := LK.out.2.2.2.1
            have h4 := BXS.out
            exact ((kF H6.out.2.1).trans LK.out.2.2.1 (fun b hb e => by omega)).trans kl (fun b hb e => by omega)
          have hci := hi8.1.cell
          have hfi := hi8.1.frozen
          have bn8 := BXS.out.1.kept k58 (by have := BXS.out; omega)
          have bw8 := BXS.out.2.2.1.kept k58 (by have := BXS.out; omega)
          have hcn := bn8.cell
          have hcw := bw8.cell
          have hR8 := HR.out.1.kept k58 (fun b hb e => by have := HFR.out.2 b hb; omega)
          have hE2at : E2[j2]? = some y := by rw [← hj2]; exact HY.out.1
          obtain ⟨g, c', eg, hg1, hg2⟩ := hR8.at hE2at
          have e5 := hR8.c5
          rw [HY.out.2.1] at hg2
          simp only [Value.slice.injEq] at eg
          obtain ⟨eg, -, -⟩ := eg
          rw [eg, HR.out.2.2] at e5
          have hb1 := bytes_self e.key
          have hjN : (j2 : Int) < (N : Int) := by omega
          have hw1 : IntKind.i64.wrap ((j2 : Int) + 1) = (j2 : Int) + 1 := IntWalk.i64_in _ (by omega)
          have B8 := Lib.hid (And.intro hi8 (And.intro kl (And.intro zl hj2)))
          clear eg hi8 kl zl hR8 hE2at bn8 bw8 k58 hj2
          by_cases hjn : j2 = nn
          · have hbe : ((j2 : Int) == (nn : Int)) = true := by rw [beq_iff_eq]; omega
            have HJN := Lib.hid hjn
            clear hjn
            gi_wp2_with (rw [Oper.semAt_eq _ _ _ (fun c h => by cases h)]; go_simp; try go_bits)
            obtain ⟨hi8, kl, zl, hj2⟩ := B8.out
            obtain ⟨e1, e2, e3, e4⟩ := round_plain (U := U') kl LK.out.2.1 LK.out.1 LK.out.2.2.2.2.2 (Kept.refl U' W8)
            exact ⟨e1, _, e2, e3, e4, rfl, by rw [← HJN.out]; exact hi8, by have := HJN.out; omega⟩
          · have hbe : ((j2 : Int) == (nn : Int)) = false := by rw [beq_eq_false_iff_ne]; omega
            have hjn2 : j2 + 1 ≤ nn := by omega
            clear hjn
            gi_wp2_with (rw [Oper.semAt_eq _ _ _ (fun c h => by cases h)]; go_simp; try go_bits)
            obtain ⟨w5, hw5, t5⟩ : ∃ w5, w5 = ({ W8 with drawn := W8.drawn + 1 } : World) ∧ Twin w5 W8 := ⟨_, rfl, rfl, rfl, rfl, rfl⟩
            refine wpW_region_still (by kernel_rfl) (by kernel_rfl) ?_
            rw [← hw5]
            have i5 : w5.cell? ⟨tb, 0, none⟩ = some (.int .i64 (j2 : Int)) := by obtain ⟨_, rfl⟩ := t5.eq; exact hci
            have f5 : w5.frozen? ⟨tb, 0, none⟩ = false := by obtain ⟨_, rfl⟩ := t5.eq; exact hfi
            have w55 : w5.cell? ⟨wb, 0, none⟩ = some (.pointer (some ⟨br, 0, none⟩)) := by obtain ⟨_, rfl⟩ := t5.eq; exact hcw
            have e55 : w5.cell? ⟨br, 5, none⟩ = some (.slice (some ⟨g, 0, none⟩) N lc) := by obtain ⟨_, rfl⟩ := t5.eq; exact e5
            have g15 : w5.cell? ⟨g, j2, none⟩ = some (.pointer (some ⟨y.b, 0, none⟩)) := by obtain ⟨_, rfl⟩ := t5.eq; exact hg1
            have g25 : w5.cell? ⟨y.b, 0, none⟩ = some (.string e.key) := by obtain ⟨_, rfl⟩ := t5.eq; exact hg2
            have T5 := Lib.hid t5
            clear hw5 t5 hci hfi hcw e5 hg1 hg2 hcn
            iterate 12 (with_reducible refine wpStill_want (by kernel_rfl) (fun K hK => ?_); go_simp; with_reducible refine hK _ ?_; clear hK K)
            refine wpStill_nil ?_
            gi_wp2_with (rw [Oper.semAt_eq _ _ _ (fun c h => by cases h)]; go_simp; try go_bits)
            obtain ⟨hi8, kl, zl, hj2⟩ := B8.out
            have bi5 : Box w5 tb (.int .i64 (j2 : Int)) := hi8.1.twin T5.out
            have kr : Kept U' W8 (w5.setCell ⟨tb, 0, none⟩ (.int .i64 ((j2 : Int) + 1))) := ((Kept.refl U' W8).twin T5.out).trans (Kept.one_set w5 ⟨tb, 0, none⟩ _) (fun b _ e => by have e : b = tb := e; rw [e]; exact hi8.2)
            obtain ⟨e1, e2, e3, e4⟩ := round_plain (U := U') kl LK.out.2.1 LK.out.1 LK.out.2.2.2.2.2 kr
            exact ⟨e1, _, e2, e3, e4, by show CountO tb (pre ++ [e]).length U' _ ∧ (pre ++ [e]).length ≤ nn; rw [List.length_append, hj2]; exact ⟨⟨bi5.set _, hi8.2⟩, hjn2⟩⟩
        · intro items dk U3 W9 hfull hi kW hR hmk hdkl hdkU hUU hUn hUl
          rw [hfull, HN.out.1] at hi
          obtain ⟨T, hTN⟩ : ∃ T, N = T := ⟨_, rfl⟩
          have hbi : Box W9 tb (.int .i64 (T : Int)) := by rw [← hTN]; exact hi.1.1
          have hmin : min (nn : Int) (N : Int) = (T : Int) := by have := hi.2; omega
          have k69 : Kept (fun b => b = tb) W5 W9 := (kF H6.out.2.1).trans kW (fun b hb e => e)
          have hdkl := Nat.le_trans H6.out.2.1.size hdkl
          clear hfull hi kW hR hdkU hUU hUn hUl hTN
          have D9 := D5.out.keepX k69 (fun b hb => .inl ⟨.inr hb, by rw [hb]; exact htbW⟩)
          have bw9 := BXS.out.2.2.1.kept k69 (fun e => BXS.out.2.2.2.1 e.symm)
          have bn9 := BXS.out.1.kept k69 (fun e => by have := BXS.out.2.2.2.2; omega)
          have br9 := BXS.out.2.1.kept k69 (fun e => by have := BXS.out.2.2.2.2; omega)
          have LEN2 := Lib.hid (show ∀ W', Kept (fun _ => False) W9 W' → Calls Try.prog 28 #[.pointer (some ⟨br, 0, none⟩)] W' fun e w' => e = .returned (.int .i64 (N : Int)) ∧ Kept (fun _ => False) W9 w' from by
            intro W' kk
            refine (d2_len2 (D9.keep kk)).mono ?_
            rintro e w' ⟨rfl, rfl⟩
            exact ⟨by rw [HN.out.2], kk⟩)
          have SAME := Lib.hid (show ∀ W', Kept (fun _ => False) W9 W' → Calls Try.prog 29 #[.pointer (some ⟨bt, 0, none⟩), .pointer (some ⟨br, 0, none⟩)] W' fun e w' => e = .returned (.bool true) ∧ Kept (fun _ => False) W9 w' from by
            intro W' kk
            refine (same10_any (D9.keep kk)).mono ?_
            rintro e w' ⟨rfl, k'⟩
            exact ⟨rfl, kk.trans k' (fun _ _ e => e)⟩)
          have RBX := Lib.hid (show ∀ w', Kept (fun _ => False) W9 w' → w'.cell? ⟨rb, 0, none⟩ = some (.bool false) ∧ w'.frozen? ⟨rb, 0, none⟩ = false from fun w' kk => ⟨(br9.kept kk (fun e => e)).cell, (br9.kept kk (fun e => e)).frozen⟩)
          have CELLS := Lib.hid (show ∀ w', Kept (fun _ => False) W9 w' → w'.cell? ⟨tb, 0, none⟩ = some (.int .i64 (T : Int)) ∧ w'.cell? ⟨nb, 0, none⟩ = some (.int .i64 (nn : Int)) ∧ w'.cell? ⟨wb, 0, none⟩ = some (.pointer (some ⟨br, 0, none⟩)) from
            fun w' kk => ⟨(hbi.kept kk (fun e => e)).cell, (bn9.kept kk (fun e => e)).cell, (bw9.kept kk (fun e => e)).cell⟩)
          have FIN := Lib.hid (show Box W9 rb (.bool false) ∧ Kept (fun _ => False) W W9 ∧ W9.heap[dk]? = some (.deferred (some [])) ∧ rb ≠ dk ∧ W.heap.size ≤ rb ∧ W.heap.size ≤ dk from
            ⟨br9, D9.back, hmk, by have := BXS.out.2.2.2.2; omega, by have := BXS.out.2.2.2.2; omega, by have := BXS.out.2.2.2.2; omega⟩)
          clear D9 bw9 bn9 br9 hbi k69 hmk hdkl hnf
          gi_wp2_with fail
          refine wpW_region_heldE 14 (S := fun w' => w'.cell? ⟨tb, 0, none⟩ = some (.int .i64 (T : Int)) ∧ w'.cell? ⟨nb, 0, none⟩ = some (.int .i64 (nn : Int)) ∧ w'.cell? ⟨wb, 0, none⟩ = some (.pointer (some ⟨br, 0, none⟩))) (by kernel_rfl) (by kernel_rfl) (by rintro ⟨_, _, h⟩; first | exact h.elim | (obtain ⟨h1, -⟩ := h; cases h1)) ?_ (fun hHeld => ?_)
          · exact CELLS.out _ ((Kept.refl _ _).twin ⟨rfl, rfl, rfl, rfl⟩)
          refine heldE_take 0 (oi := _) (v := ?_) rfl (by kernel_rfl) (by kernel_rfl) (by kernel_rfl) (by kernel_rfl) (fun _ _ _ h => h) (by rfl) (fun w hSw => ?_) (by assumption) ?_
          rotate_left
          · (try dsimp only at hSw); go_simp; try with_reducible rfl
          try simp only [Act.put, List.setIfInBounds_toArray, List.set_cons_zero, List.set_cons_succ]
          refine heldE_take 1 (oi := _) (v := ?_) rfl (by kernel_rfl) (by kernel_rfl) (by kernel_rfl) (by kernel_rfl) (fun _ _ _ h => h) (by rfl) (fun w hSw => ?_) (by assumption) ?_
          rotate_left
          · (try dsimp only at hSw); go_simp; try with_reducible rfl
          try simp only [Act.put, List.setIfInBounds_toArray, List.set_cons_zero, List.set_cons_succ]
          refine heldE_take 2 (oi := _) (v := ?_) rfl (by kernel_rfl) (by kernel_rfl) (by kernel_rfl) (by kernel_rfl) (fun _ _ _ h => h) (by rfl) (fun w hSw => ?_) (by assumption) ?_
          rotate_left
          · (try dsimp only at hSw); go_simp; try with_reducible rfl
          try simp only [Act.put, List.setIfInBounds_toArray, List.set_cons_zero, List.set_cons_succ]
          refine heldE_take 3 (oi := _) (v := ?_) rfl (by kernel_rfl) (by kernel_rfl) (by kernel_rfl) (by kernel_rfl) (fun _ _ _ h => h) (by rfl) (fun w hSw => ?_) (by assumption) ?_
          rotate_left
          · (try dsimp only at hSw); go_simp; try with_reducible rfl
          try simp only [Act.put, List.setIfInBounds_toArray, List.set_cons_zero, List.set_cons_succ]
          refine heldE_take 4 (oi := _) (v := ?_) rfl (by kernel_rfl) (by kernel_rfl) (by kernel_rfl) (by kernel_rfl) (fun _ _ _ h => h) (by rfl) (fun w hSw => ?_) (by assumption) ?_
          rotate_left
          · (try dsimp only at hSw); go_simp; try with_reducible rfl
          try simp only [Act.put, List.setIfInBounds_toArray, List.set_cons_zero, List.set_cons_succ]
          refine wpAnyE_ready (rs := [5]) (by kernel_rfl) (by simp) ?_
          refine heldE_cons 5 (o := _) rfl (fun KC hKC => ?_) AllReadyE.nil
          go_simp
          with_reducible refine Calls.mono (LEN2.out _ ?_) ?_
          · exact (Kept.refl _ _).twin ⟨rfl, rfl, rfl, rfl⟩
          rintro e1 wA ⟨rfl, kA⟩
          have KA := Lib.hid kA
          clear kA
          dsimp only
          refine hKC.out _ _ ?_ (fun hHeld => ?_)
          · first | exact CELLS.out _ KB.out | exact CELLS.out _ KA.out
          clear hKC KC
          try simp only [Act.put, List.setIfInBounds_toArray, List.set_cons_zero, List.set_cons_succ]
          refine heldE_take 6 (oi := _) (v := ?_) rfl (by kernel_rfl) (by kernel_rfl) (by kernel_rfl) (by kernel_rfl) (fun _ _ _ h => h) (by rfl) (fun w hSw => ?_) (by assumption) ?_
          rotate_left
          · (try dsimp only at hSw); go_simp; try with_reducible rfl
          try simp only [Act.put, List.setIfInBounds_toArray, List.set_cons_zero, List.set_cons_succ]
          refine heldE_take 7 (oi := _) (v := ?_) rfl (by kernel_rfl) (by kernel_rfl) (by kernel_rfl) (by kernel_rfl) (fun _ _ _ h => h) (by rfl) (fun w hSw => ?_) (by assumption) ?_
          rotate_left
          · (try dsimp only at hSw); go_simp; try with_reducible rfl
          try simp only [Act.put, List.setIfInBounds_toArray, List.set_cons_zero, List.set_cons_succ]
          refine heldE_take 8 (oi := _) (v := ?_) rfl (by kernel_rfl) (by kernel_rfl) (by kernel_rfl) (by kernel_rfl) (fun _ _ _ h => h) (by rfl) (fun w hSw => ?_) (by assumption) ?_
          rotate_left
          · (try dsimp only at hSw); go_simp; try with_reducible rfl
          try simp only [Act.put, List.setIfInBounds_toArray, List.set_cons_zero, List.set_cons_succ]
          refine heldE_take 9 (oi := _) (v := ?_) rfl (by kernel_rfl) (by kernel_rfl) (by kernel_rfl) (by kernel_rfl) (fun _ _ _ h => h) (by rfl) (fun w hSw => ?_) (by assumption) ?_
          rotate_left
          · (try dsimp only at hSw); go_simp; try with_reducible rfl
          try simp only [Act.put, List.setIfInBounds_toArray, List.set_cons_zero, List.set_cons_succ]
          refine heldE_take 10 (oi := _) (v := ?_) rfl (by kernel_rfl) (by kernel_rfl) (by kernel_rfl) (by kernel_rfl) (fun _ _ _ h => h) (by rfl) (fun w hSw => ?_) (by assumption) ?_
          rotate_left
          · (try dsimp only at hSw); go_simp; try with_reducible rfl
          try simp only [Act.put, List.setIfInBounds_toArray, List.set_cons_zero, List.set_cons_succ]
          refine heldE_take 11 (oi := _) (v := ?_) rfl (by kernel_rfl) (by kernel_rfl) (by kernel_rfl) (by kernel_rfl) (fun _ _ _ h => h) (by rfl) (fun w hSw => ?_) (by assumption) ?_
          rotate_left
          · (try dsimp only at hSw); go_simp; try with_reducible rfl
          try simp only [Act.put, List.setIfInBounds_toArray, List.set_cons_zero, List.set_cons_succ]
          refine wpAnyE_ready (rs := [12]) (by kernel_rfl) (by simp) ?_
          refine heldE_cons 12 (o := _) rfl (fun KC hKC => ?_) AllReadyE.nil
          go_simp
          with_reducible refine Calls.mono (SAME.out _ ?_) ?_
          · exact KA.out.twin ⟨rfl, rfl, rfl, rfl⟩
          rintro e1 wB ⟨rfl, kB⟩
          have KB := Lib.hid kB
          obtain ⟨hcr, hfr⟩ := RBX.out _ kB
          clear kB
          dsimp only
          refine hKC.out _ _ ?_ (fun hHeld => ?_)
          · first | exact CELLS.out _ KB.out | exact CELLS.out _ KA.out
          clear hKC KC
          try simp only [Act.put, List.setIfInBounds_toArray, List.set_cons_zero, List.set_cons_succ]
          refine heldE_take 13 (oi := _) (v := ?_) rfl (by kernel_rfl) (by kernel_rfl) (by kernel_rfl) (by kernel_rfl) (fun _ _ _ h => h) (by rfl) (fun w hSw => ?_) (by assumption) ?_
          rotate_left
          · (try dsimp only at hSw); go_simp; try with_reducible rfl
          try simp only [Act.put, List.setIfInBounds_toArray, List.set_cons_zero, List.set_cons_succ]
          refine wpAnyE_ready (rs := [14]) (by kernel_rfl) (by simp) ?_
          refine heldE_last (o := _) rfl (fun KC hKC => ?_) AllReadyE.nil
          go_simp
          refine hKC.out _ _ ?_
          clear hKC KC
          try simp only [Act.put, List.setIfInBounds_toArray, List.set_cons_zero, List.set_cons_succ]
          refine wpAnyE_done (by kernel_rfl) (NoPanic.normal ?_) _
          gi_wp2_with fail
          obtain ⟨hb9, k9, hdk, hrd, hrb, hdl⟩ := FIN.out
          have ks := Kept.one_set wB ⟨rb, 0, none⟩ (.bool true)
          have kF9 : Kept (fun b => b = rb) W9 (wB.setCell ⟨rb, 0, none⟩ (.bool true)) := (kF KB.out).trans ks (fun _ _ e => e)
          have hdk2 := (kF9.block dk (Array.getElem?_eq_some_iff.1 hdk).1 (fun e => hrd e.symm)).trans hdk
          refine leaves_marks [dk] _ (by simp) (fun d hd => by rw [List.mem_singleton.1 hd]; exact hdk2) (fun W' kd' => ?_)
          have hb := ((hb9.kept KB.out (fun e => e)).set (.bool true)).kept kd' (fun e => hrd (List.mem_singleton.1 e))
          refine ⟨_, results_box rfl Try.underlying4 rfl rfl hb, rfl, ?_⟩
          exact (k9.trans kF9 (fun b hb e => by omega)).trans kd' (fun b hb e => by have := List.mem_singleton.1 e; omega)
        · rintro c dk U3 W9 ⟨rfl, hi, hle⟩ kW hR hmk hdkl hdkU hUU hUn hUl
          obtain ⟨T, hTN⟩ : ∃ T, nn = T := ⟨_, rfl⟩
          have hbi : Box W9 tb (.int .i64 (T : Int)) := by rw [← hTN]; exact hi.1
          have hmin : min (nn : Int) (N : Int) = (T : Int) := by omega
          have k69 : Kept (fun b => b = tb) W5 W9 := (kF H6.out.2.1).trans kW (fun b hb e => e)
          have hdkl := Nat.le_trans H6.out.2.1.size hdkl
          clear hi hle kW hR hdkU hUU hUn hUl hTN
          have D9 := D5.out.keepX k69 (fun b hb => .inl ⟨.inr hb, by rw [hb]; exact htbW⟩)
          have bw9 := BXS.out.2.2.1.kept k69 (fun e => BXS.out.2.2.2.1 e.symm)
          have bn9 := BXS.out.1.kept k69 (fun e => by have := BXS.out.2.2.2.2; omega)
          have br9 := BXS.out.2.1.kept k69 (fun e => by have := BXS.out.2.2.2.2; omega)
          have LEN2 := Lib.hid (show ∀ W', Kept (fun _ => False) W9 W' → Calls Try.prog 28 #[.pointer (some ⟨br, 0, none⟩)] W' fun e w' => e = .returned (.int .i64 (N : Int)) ∧ Kept (fun _ => False) W9 w' from by
            intro W' kk
            refine (d2_len2 (D9.keep kk)).mono ?_
            rintro e w' ⟨rfl, rfl⟩
            exact ⟨by rw [HN.out.2], kk⟩)
          have SAME := Lib.hid (show ∀ W', Kept (fun _ => False) W9 W' → Calls Try.prog 29 #[.pointer (some ⟨bt, 0, none⟩), .pointer (some ⟨br, 0, none⟩)] W' fun e w' => e = .returned (.bool true) ∧ Kept (fun _ => False) W9 w' from by
            intro W' kk
            refine (same10_any (D9.keep kk)).mono ?_
            rintro e w' ⟨rfl, k'⟩
            exact ⟨rfl, kk.trans k' (fun _ _ e => e)⟩)
          have RBX := Lib.hid (show ∀ w', Kept (fun _ => False) W9 w' → w'.cell? ⟨rb, 0, none⟩ = some (.bool false) ∧ w'.frozen? ⟨rb, 0, none⟩ = false from fun w' kk => ⟨(br9.kept kk (fun e => e)).cell, (br9.kept kk (fun e => e)).frozen⟩)
          have CELLS := Lib.hid (show ∀ w', Kept (fun _ => False) W9 w' → w'.cell? ⟨tb, 0, none⟩ = some (.int .i64 (T : Int)) ∧ w'.cell? ⟨nb, 0, none⟩ = some (.int .i64 (nn : Int)) ∧ w'.cell? ⟨wb, 0, none⟩ = some (.pointer (some ⟨br, 0, none⟩)) from
            fun w' kk => ⟨(hbi.kept kk (fun e => e)).cell, (bn9.kept kk (fun e => e)).cell, (bw9.kept kk (fun e => e)).cell⟩)
          have FIN := Lib.hid (show Box W9 rb (.bool false) ∧ Kept (fun _ => False) W W9 ∧ W9.heap[dk]? = some (.deferred (some [])) ∧ rb ≠ dk ∧ W.heap.size ≤ rb ∧ W.heap.size ≤ dk from
            ⟨br9, D9.back, hmk, by have := BXS.out.2.2.2.2; omega, by have := BXS.out.2.2.2.2; omega, by have := BXS.out.2.2.2.2; omega⟩)
          clear D9 bw9 bn9 br9 hbi k69 hmk hdkl hnf
          gi_wp2_with fail
          refine wpW_region_heldE 14 (S := fun w' => w'.cell? ⟨tb, 0, none⟩ = some (.int .i64 (T : Int)) ∧ w'.cell? ⟨nb, 0, none⟩ = some (.int .i64 (nn : Int)) ∧ w'.cell? ⟨wb, 0, none⟩ = some (.pointer (some ⟨br, 0, none⟩))) (by kernel_rfl) (by kernel_rfl) (by rintro ⟨_, _, h⟩; first | exact h.elim | (obtain ⟨h1, -⟩ := h; cases h1)) ?_ (fun hHeld => ?_)
          · exact CELLS.out _ ((Kept.refl _ _).twin ⟨rfl, rfl, rfl, rfl⟩)
          refine heldE_take 0 (oi := _) (v := ?_) rfl (by kernel_rfl) (by kernel_rfl) (by kernel_rfl) (by kernel_rfl) (fun _ _ _ h => h) (by rfl) (fun w hSw => ?_) (by assumption) ?_
          rotate_left
          · (try dsimp only at hSw); go_simp; try with_reducible rfl
          try simp only [Act.put, List.setIfInBounds_toArray, List.set_cons_zero, List.set_cons_succ]
          refine heldE_take 1 (oi := _) (v := ?_) rfl (by kernel_rfl) (by kernel_rfl) (by kernel_rfl) (by kernel_rfl) (fun _ _ _ h => h) (by rfl) (fun w hSw => ?_) (by assumption) ?_
          rotate_left
          · (try dsimp only at hSw); go_simp; try with_reducible rfl
          try simp only [Act.put, List.setIfInBounds_toArray, List.set_cons_zero, List.set_cons_succ]
          refine heldE_take 2 (oi := _) (v := ?_) rfl (by kernel_rfl) (by kernel_rfl) (by kernel_rfl) (by kernel_rfl) (fun _ _ _ h => h) (by rfl) (fun w hSw => ?_) (by assumption) ?_
          rotate_left
          · (try dsimp only at hSw); go_simp; try with_reducible rfl
          try simp only [Act.put, List.setIfInBounds_toArray, List.set_cons_zero, List.set_cons_succ]
          refine heldE_take 3 (oi := _) (v := ?_) rfl (by kernel_rfl) (by kernel_rfl) (by kernel_rfl) (by kernel_rfl) (fun _ _ _ h => h) (by rfl) (fun w hSw => ?_) (by assumption) ?_
          rotate_left
          · (try dsimp only at hSw); go_simp; try with_reducible rfl
          try simp only [Act.put, List.setIfInBounds_toArray, List.set_cons_zero, List.set_cons_succ]
          refine heldE_take 4 (oi := _) (v := ?_) rfl (by kernel_rfl) (by kernel_rfl) (by kernel_rfl) (by kernel_rfl) (fun _ _ _ h => h) (by rfl) (fun w hSw => ?_) (by assumption) ?_
          rotate_left
          · (try dsimp only at hSw); go_simp; try with_reducible rfl
          try simp only [Act.put, List.setIfInBounds_toArray, List.set_cons_zero, List.set_cons_succ]
          refine wpAnyE_ready (rs := [5]) (by kernel_rfl) (by simp) ?_
          refine heldE_cons 5 (o := _) rfl (fun KC hKC => ?_) AllReadyE.nil
          go_simp
          with_reducible refine Calls.mono (LEN2.out _ ?_) ?_
          · exact (Kept.refl _ _).twin ⟨rfl, rfl, rfl, rfl⟩
          rintro e1 wA ⟨rfl, kA⟩
          have KA := Lib.hid kA
          clear kA
          dsimp only
          refine hKC.out _ _ ?_ (fun hHeld => ?_)
          · first | exact CELLS.out _ KB.out | exact CELLS.out _ KA.out
          clear hKC KC
          try simp only [Act.put, List.setIfInBounds_toArray, List.set_cons_zero, List.set_cons_succ]
          refine heldE_take 6 (oi := _) (v := ?_) rfl (by kernel_rfl) (by kernel_rfl) (by kernel_rfl) (by kernel_rfl) (fun _ _ _ h => h) (by rfl) (fun w hSw => ?_) (by assumption) ?_
          rotate_left
          · (try dsimp only at hSw); go_simp; try with_reducible rfl
          try simp only [Act.put, List.setIfInBounds_toArray, List.set_cons_zero, List.set_cons_succ]
          refine heldE_take 7 (oi := _) (v := ?_) rfl (by kernel_rfl) (by kernel_rfl) (by kernel_rfl) (by kernel_rfl) (fun _ _ _ h => h) (by rfl) (fun w hSw => ?_) (by assumption) ?_
          rotate_left
          · (try dsimp only at hSw); go_simp; try with_reducible rfl
          try simp only [Act.put, List.setIfInBounds_toArray, List.set_cons_zero, List.set_cons_succ]
          refine heldE_take 8 (oi := _) (v := ?_) rfl (by kernel_rfl) (by kernel_rfl) (by kernel_rfl) (by kernel_rfl) (fun _ _ _ h => h) (by rfl) (fun w hSw => ?_) (by assumption) ?_
          rotate_left
          · (try dsimp only at hSw); go_simp; try with_reducible rfl
          try simp only [Act.put, List.setIfInBounds_toArray, List.set_cons_zero, List.set_cons_succ]
          refine heldE_take 9 (oi := _) (v := ?_) rfl (by kernel_rfl) (by kernel_rfl) (by kernel_rfl) (by kernel_rfl) (fun _ _ _ h => h) (by rfl) (fun w hSw => ?_) (by assumption) ?_
          rotate_left
          · (try dsimp only at hSw); go_simp; try with_reducible rfl
          try simp only [Act.put, List.setIfInBounds_toArray, List.set_cons_zero, List.set_cons_succ]
          refine heldE_take 10 (oi := _) (v := ?_) rfl (by kernel_rfl) (by kernel_rfl) (by kernel_rfl) (by kernel_rfl) (fun _ _ _ h => h) (by rfl) (fun w hSw => ?_) (by assumption) ?_
          rotate_left
          · (try dsimp only at hSw); go_simp; try with_reducible rfl
          try simp only [Act.put, List.setIfInBounds_toArray, List.set_cons_zero, List.set_cons_succ]
          refine heldE_take 11 (oi := _) (v := ?_) rfl (by kernel_rfl) (by kernel_rfl) (by kernel_rfl) (by kernel_rfl) (fun _ _ _ h => h) (by rfl) (fun w hSw => ?_) (by assumption) ?_
          rotate_left
          · (try dsimp only at hSw); go_simp; try with_reducible rfl
          try simp only [Act.put, List.setIfInBounds_toArray, List.set_cons_zero, List.set_cons_succ]
          refine wpAnyE_ready (rs := [12]) (by kernel_rfl) (by simp) ?_
          refine heldE_cons 12 (o := _) rfl (fun KC hKC => ?_) AllReadyE.nil
          go_simp
          with_reducible refine Calls.mono (SAME.out _ ?_) ?_
          · exact KA.out.twin ⟨rfl, rfl, rfl, rfl⟩
          rintro e1 wB ⟨rfl, kB⟩
          have KB := Lib.hid kB
          obtain ⟨hcr, hfr⟩ := RBX.out _ kB
          clear kB
          dsimp only
          refine hKC.out _ _ ?_ (fun hHeld => ?_)
          · first | exact CELLS.out _ KB.out | exact CELLS.out _ KA.out
          clear hKC KC
          try simp only [Act.put, List.setIfInBounds_toArray, List.set_cons_zero, List.set_cons_succ]
          refine heldE_take 13 (oi := _) (v := ?_) rfl (by kernel_rfl) (by kernel_rfl) (by kernel_rfl) (by kernel_rfl) (fun _ _ _ h => h) (by rfl) (fun w hSw => ?_) (by assumption) ?_
          rotate_left
          · (try dsimp only at hSw); go_simp; try with_reducible rfl
          try simp only [Act.put, List.setIfInBounds_toArray, List.set_cons_zero, List.set_cons_succ]
          refine wpAnyE_ready (rs := [14]) (by kernel_rfl) (by simp) ?_
          refine heldE_last (o := _) rfl (fun KC hKC => ?_) AllReadyE.nil
          go_simp
          refine hKC.out _ _ ?_
          clear hKC KC
          try simp only [Act.put, List.setIfInBounds_toArray, List.set_cons_zero, List.set_cons_succ]
          refine wpAnyE_done (by kernel_rfl) (NoPanic.normal ?_) _
          gi_wp2_with fail
          obtain ⟨hb9, k9, hdk, hrd, hrb, hdl⟩ := FIN.out
          have ks := Kept.one_set wB ⟨rb, 0, none⟩ (.bool true)
          have kF9 : Kept (fun b => b = rb) W9 (wB.setCell ⟨rb, 0, none⟩ (.bool true)) := (kF KB.out).trans ks (fun _ _ e => e)
          have hdk2 := (kF9.block dk (Array.getElem?_eq_some_iff.1 hdk).1 (fun e => hrd e.symm)).trans hdk
          refine leaves_marks [dk] _ (by simp) (fun d hd => by rw [List.mem_singleton.1 hd]; exact hdk2) (fun W' kd' => ?_)
          have hb := ((hb9.kept KB.out (fun e => e)).set (.bool true)).kept kd' (fun e => hrd (List.mem_singleton.1 e))
          refine ⟨_, results_box rfl Try.underlying4 rfl rfl hb, rfl, ?_⟩
          exact (k9.trans kF9 (fun b hb e => by omega)).trans kd' (fun b hb e => by have := List.mem_singleton.1 e; omega)
end Go.Proofs.Ytalahbmahpgkeaa
