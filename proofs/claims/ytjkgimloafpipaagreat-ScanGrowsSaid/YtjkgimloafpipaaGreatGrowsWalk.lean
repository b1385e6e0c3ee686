/- ScanGrows, walked. -/
import Derived.Test.YtjkgimloafpipaaGreatSizesWalk
import Derived.Test.YtjkgimloafpipaaGreatThree
import Derived.Test.YtjkgimloafpipaaGreatHeld
namespace Go.Proofs.YtjkgimloafpipaaGreat
set_option linter.unusedVariables false
set_option linter.unusedSimpArgs false
open Go.RowKit Go.MapKept Go.Deep

set_option maxRecDepth 100000 in
set_option maxHeartbeats 4000000 in
theorem scanGrows_any (kind key value most : Int) (a : Option Addr) (n c : Nat) (ss : Nat → Pr) (a' : Option Addr) (n' c' : Nat) (ss' : Nat → Pr) (W : World) (hs : Puts W a n ss) (hn : n ≤ 9223372036854775807) (hs' : Puts W a' n' ss') (hn' : n' ≤ 9223372036854775807) :
    Calls Tryz.prog 6 #[.int .i64 kind, .int .i64 key, .int .i64 value, .int .i64 most, .slice a n c, .slice a' n' c'] W fun e w' => e = .returned (.bool true) ∧ Kept (fun _ => False) W w' := by
  have HS := Lib.hid (And.intro hs hs')
  clear hs hs'
  refine callsIn_WR (ro := none) (n := 0).1 (callsIn_of_wp_marks Tryz.func6 rfl trivial ?_ rfl)
  simp only [Tryz.ntmps6, List.size_toArray, List.length_cons, List.length_nil, Nat.reduceAdd, Nat.reduceSub, Array.replicate_succ, Array.replicate_zero, List.push_toArray, List.append_toArray, List.nil_append, List.cons_append]
  gi_wp2_with fail
  refine callsIn_WR.2 ((shown_any W).mono ?_)
  rintro e w1 ⟨rfl, k1⟩
  have K1 := Lib.hid k1
  have MD := Lib.hid (made11_any kind key value most a n c ss w1 (fun i hi => by
    obtain ⟨b, o, e, hb, hp⟩ := HS.out.1 i hi
    exact ⟨b, o, e, Nat.lt_of_lt_of_le hb k1.size, hp.kept hb k1 (fun e => e)⟩) hn)
  clear k1
  gi_wp2_with fail
  refine callsIn_WR.2 (MD.out.mono ?_)
  rintro e w2 ⟨bt, br, P, rfl, hd⟩
  have hmr := (small_right kind key value most)
  generalize smallM kind key value most = m at hd hmr
  obtain ⟨Ft, Fr, hses, -⟩ := hd.ex
  have SE := Lib.hid hses
  have D := Lib.hid hd
  obtain ⟨K, V, hK, hV, hK64, hV256⟩ := doc_nats hmr.1
  obtain ⟨nm, kd, ks, vs, mx⟩ := m
  simp only at hK hV
  subst hK
  subst hV
  obtain ⟨m, hm⟩ : ∃ m : TM, m = ⟨nm, kd, K, V, mx⟩ := ⟨_, rfl⟩
  rw [← hm] at hmr SE D
  have HM := Lib.hid hm
  have HMR := Lib.hid hmr
  clear MD hd hses hmr hm
  gi_wp2_with fail
  refine callsIn_WR.2 ((ses_map SE.out).mono ?_)
  rintro e w3 ⟨rfl, k3⟩
  have K3 := Lib.hid k3
  clear k3
  gi_wp2_with fail
  refine callsIn_WR.2 ((ses_snap (SE.out.keep K3.out)).mono ?_)
  rintro e w4 ⟨sv, rfl, hob, k4⟩
  obtain ⟨ba, bc, rfl, hbc, hbs, hbf⟩ := hob.form
  have K4 := Lib.hid (K3.out.trans k4 (fun _ _ e => e))
  have RES := Lib.hid (ses_restore m hbs hbc (snap_small SE.out.sizes HMR.out.1 SE.out.len))
  obtain ⟨P', hP1, hP2⟩ := resP_back HMR.out.1 SE.out.nodup SE.out.sizes SE.out.len SE.out.arr
  have HP := Lib.hid (And.intro hP1 hP2)
  clear k4 hob hbs hbc hbf K3 hP1 hP2
  gi_wp2_with fail
  refine callsIn_WR.2 (RES.out.mono ?_)
  rintro e w5 ⟨k5, hp⟩
  rw [HP.out.1] at hp
  obtain ⟨bu, rfl, hu⟩ := hp
  have T := Lib.hid (t3_start D.out K4.out hu k5)
  clear RES k5 hu
  gi_wp2_with fail
  obtain ⟨⟨Fa, hsa⟩, -⟩ := T.out.ses
  refine callsIn_WR.2 ((ses_map hsa).mono ?_)
  rintro e w6 ⟨rfl, k6⟩
  have hv : m.v = .agg #[.string nm, .int .i64 kd, .int .i64 (K : Int), .int .i64 (V : Int), .int .i64 mx] := by rw [HM.out]; rfl
  rw [hv]
  have T6 := Lib.hid (T.out.keep k6)
  clear hsa k6 hv T
  obtain ⟨q, hq⟩ : ∃ q, w6.heap.size = q := ⟨_, rfl⟩
  obtain ⟨w7, hw7⟩ : ∃ w7, w6.alloc (.cells #[.string nm, .int .i64 kd, .int .i64 (K : Int), .int .i64 (V : Int), .int .i64 mx] 25) = w7 := ⟨_, rfl⟩
  have B7 := Lib.hid (show MBox w7 q m from by rw [← hw7, ← hq, HM.out]; exact MBox.new w6 ⟨nm, kd, K, V, mx⟩ 25)
  have T7 := Lib.hid (show T3 w1 m bt br bu (fun b => b = q) P P' (ordP m P) w7 from T6.out.grow (by rw [← hw7]; exact Kept.one_alloc _ _) (fun b hb => .inr (by omega)) (fun b hb => by rw [hb]; exact B7.out.row.lt))
  have HQ := Lib.hid (And.intro hw7 hq)
  clear T6 hw7 hq
  gi_wp2_with fail
  rw [HQ.out.2]
  try rw [HQ.out.1]
  gi_loopw [19, 20, 21, 22, 23, 24] (fun i s20 s21 s22 s23 s24 wr => ∃ (k : Nat) (P P' : List Pr), k ≤ n' ∧ k ≤ 15 ∧ i = .int .i64 (k : Int) ∧ T3 w1 m bt br bu (fun b => b = q) P P' (ordP m P) wr ∧ ordP m P' = ordP m P ∧ MBox wr q m) (fun i _ _ _ _ _ _ => n' - (intOf i).toNat)
  case atStart => exact ⟨0, P, P', Nat.zero_le _, by omega, rfl, T7.out, HP.out.2, B7.out⟩
  case round =>
    clear T7 HP B7 HQ SE D K4
    obtain ⟨k, P, P', hk, hk15, rfl, ht, hpp, hb⟩ := hrel
    have TR := Lib.hid (And.intro ht (And.intro hpp hb))
    have hbc := hb
    rw [HM.out] at hbc
    have c2 : wr.cell? ⟨q, 2, none⟩ = some (.int .i64 (K : Int)) := hbc.c2
    have c3 : wr.cell? ⟨q, 3, none⟩ = some (.int .i64 (V : Int)) := hbc.c3
    clear ht hpp hb hbc
    by_cases hlt : k < n' ∧ k < 15
    · obtain ⟨hlt, h15⟩ := hlt
      obtain ⟨b, o, rfl, hbW, hst⟩ := HS.out.2 k hlt
      have hst2 := hst.kept hbW (K1.out.trans TR.out.1.back (fun _ _ e => e)) (fun e => e)
      have d0 := hst2.c0
      have d1 := hst2.c1
      have FK := Lib.hid (fun w => fit_any (ss' k).1 K hst.sk (by omega) w)
      have FV := Lib.hid (fun w => fit_any (ss' k).2 V hst.sv (by omega) w)
      generalize (ss' k).1 = ky at d0 FK
      generalize (ss' k).2 = vl at d1 FV
      have QB := Lib.hid (show q < wr.heap.size ∧ b < wr.heap.size from ⟨TR.out.2.2.row.lt, Nat.lt_of_lt_of_le hbW (K1.out.trans TR.out.1.back (fun _ _ e => e)).size⟩)
      have FK1 := Lib.hid (show ∀ W', Kept (fun _ => False) wr W' → Calls Tryz.prog 22 #[.string ky, .int .i64 (K : Int)] W' fun e w' => e = .returned (.string (fitB ky K)) ∧ (w'.cell? ⟨q, 2, none⟩ = some (.int .i64 (K : Int)) ∧ w'.cell? ⟨b, o + k * 2, none⟩ = some (.string ky)) ∧ Kept (fun _ => False) wr w' from fun W' kk => by
        refine (FK.out W').mono ?_
        rintro e w' ⟨rfl, k'⟩
        have k2 := kk.trans k' (fun _ _ e => e)
        exact ⟨rfl, ⟨(k2.cell (p := ⟨q, 2, none⟩) QB.out.1 (fun e => e)).trans c2, (k2.cell (p := ⟨b, o + k * 2, none⟩) QB.out.2 (fun e => e)).trans d0⟩, k2⟩)
      clear hst hst2
      gi_wp2_with fail
      refine (wpIn_wide (n := 0)).2 ?_
      go_region_held3 (fun w' => w'.cell? ⟨q, 2, none⟩ = some (.int .i64 (K : Int)) ∧ w'.cell? ⟨b, o + k * 2, none⟩ = some (.string ky)) (go_keep) ((go_at_call 22; refine (FK1.out _ (by exact (Kept.refl _ _).twin ⟨rfl, rfl, rfl, rfl⟩)).mono ?_; rintro e w5 ⟨rfl, hcc, k5⟩; have K5 := Lib.hid k5; clear k5))
      all_goals
        have FV1 := Lib.hid (show ∀ W', Kept (fun _ => False) w5 W' → Calls Tryz.prog 22 #[.string vl, .int .i64 (V : Int)] W' fun e w' => e = .returned (.string (fitB vl V)) ∧ (w'.cell? ⟨q, 3, none⟩ = some (.int .i64 (V : Int)) ∧ w'.cell? ⟨b, o + k * 2 + 1, none⟩ = some (.string vl)) ∧ Kept (fun _ => False) w5 w' from fun W' kk => by
          refine (FV.out W').mono ?_
          rintro e w' ⟨rfl, k'⟩
          have k2 := kk.trans k' (fun _ _ e => e)
          have k3 := K5.out.trans k2 (fun _ _ e => e)
          exact ⟨rfl, ⟨(k3.cell (p := ⟨q, 3, none⟩) QB.out.1 (fun e => e)).trans c3, (k3.cell (p := ⟨b, o + k * 2 + 1, none⟩) QB.out.2 (fun e => e)).trans d1⟩, k2⟩)
        have d3 : w5.cell? ⟨q, 3, none⟩ = some (.int .i64 (V : Int)) := (K5.out.cell (p := ⟨q, 3, none⟩) QB.out.1 (fun e => e)).trans c3
        have d4 : w5.cell? ⟨b, o + k * 2 + 1, none⟩ = some (.string vl) := (K5.out.cell (p := ⟨b, o + k * 2 + 1, none⟩) QB.out.2 (fun e => e)).trans d1
        clear c2 c3 d0 d1 hcc
        gi_wp2_with fail
        refine (wpIn_wide (n := 0)).2 ?_
        go_region_held3 (fun w' => w'.cell? ⟨q, 3, none⟩ = some (.int .i64 (V : Int)) ∧ w'.cell? ⟨b, o + k * 2 + 1, none⟩ = some (.string vl)) (go_keep) ((go_at_call 22; refine (FV1.out _ (by exact (Kept.refl _ _).twin ⟨rfl, rfl, rfl, rfl⟩)).mono ?_; rintro e w6 ⟨rfl, hcc, k6⟩; have K6 := Lib.hid k6; clear k6))
        all_goals
          have K56 := Lib.hid (K5.out.trans K6.out (fun _ _ e => e))
          have T6 := Lib.hid (TR.out.1.keep K56.out)
          have B6 := Lib.hid (TR.out.2.2.kept K56.out (fun e => e))
          obtain ⟨x1, w7, hcv1, kq1, bq1, z1⟩ := bytes_made w6 (fitB ky K)
          obtain ⟨x2, w8, hcv2, kq2, bq2, z2⟩ := bytes_made w7 (fitB vl V)
          have K68 := Lib.hid (kq1.trans kq2 (fun _ _ e => e))
          have BQ := Lib.hid (And.intro (bq1.kept kq2 (fun _ _ _ e => e)) bq2)
          have Z := Lib.hid (And.intro z1 z2)
          have hrem : ((k : Int)).tmod 3 = ((k % 3 : Nat) : Int) := tmod_nat k 3
          obtain ⟨fl, hfl⟩ : ∃ fl : Nat, k % 3 = fl := ⟨_, rfl⟩
          rw [hfl] at hrem
          clear d3 d4 hcc kq1 kq2 bq1 bq2 z1 z2 hfl
          gi_wp2_with fail
          refine callsIn_WR.2 ((t3_upd1 (c := x1) (vc := x2) (fl := fl) T6.out K68.out BQ.out.1 BQ.out.2 (fun b o e => by cases e; have := Z.out.1; omega)).mono ?_)
          rintro e w9 ⟨rfl, t9, k9⟩
          have T9 := Lib.hid t9
          have B9 := Lib.hid (B6.out.kept k9 (fun e => e rfl))
          clear t9 k9 hcv1 hcv2 K68 BQ Z
          obtain ⟨y1, w10, hcv1, kq1, bq1, z1⟩ := bytes_made w9 (fitB ky K)
          obtain ⟨y2, w11, hcv2, kq2, bq2, z2⟩ := bytes_made w10 (fitB vl V)
          have K68 := Lib.hid (kq1.trans kq2 (fun _ _ e => e))
          have BQ := Lib.hid (And.intro (bq1.kept kq2 (fun _ _ _ e => e)) bq2)
          have Z := Lib.hid (And.intro z1 z2)
          clear kq1 kq2 bq1 bq2 z1 z2
          gi_wp2_with fail
          refine callsIn_WR.2 ((t3_updu (c := y1) (vc := y2) (fl := fl) T9.out K68.out BQ.out.1 BQ.out.2 (fun b o e => by cases e; have := Z.out.1; omega)).mono ?_)
          rintro e w12 ⟨rfl, t12, k12⟩
          have T12 := Lib.hid t12
          have B12 := Lib.hid (B9.out.kept k12 (fun e => e rfl))
          clear t12 k12 hcv1 hcv2 K68 BQ Z
          gi_wp2_with fail
          refine callsIn_WR.2 ((t3_upd2 (k := fitB ky K) (v := fitB vl V) (fl := fl) T12.out (Kept.refl _ _) (by rw [fitB_size]; omega) (by rw [fitB_size]; omega)).mono ?_)
          rintro e w13 ⟨rfl, t13, k13⟩
          have hnd : (P.map (·.1)).Nodup := by obtain ⟨⟨F, h⟩, -⟩ := TR.out.1.ses; exact h.nodup
          have hnd' : (P'.map (·.1)).Nodup := by obtain ⟨-, -, ⟨F, h⟩⟩ := TR.out.1.ses; exact h.nodup
          have ec1 : codeP m (fitB ky K) (fitB vl V) fl P' = codeP m (fitB ky K) (fitB vl V) fl P := by rw [← ordP_code hnd', TR.out.2.1, ordP_code hnd]
          have ec2 : codeP m (fitB ky K) (fitB vl V) fl (ordP m P) = codeP m (fitB ky K) (fitB vl V) fl P := ordP_code hnd
          rw [ec1, ec2]
          have e3 : ordP m (updP m (fitB ky K) (fitB vl V) fl P) = rupdP m (fitB ky K) (fitB vl V) fl (ordP m P) := ordP_upd hnd
          have e4 : ordP m (updP m (fitB ky K) (fitB vl V) fl P') = rupdP m (fitB ky K) (fitB vl V) fl (ordP m P) := by rw [ordP_upd hnd', TR.out.2.1]
          rw [← e3] at t13
          have E34 := Lib.hid (e4.trans e3.symm)
          generalize updP m (fitB ky K) (fitB vl V) fl P = P2 at t13 E34
          generalize updP m (fitB ky K) (fitB vl V) fl P' = P2' at t13 E34
          generalize codeP m (fitB ky K) (fitB vl V) fl P = cd
          have T13 := Lib.hid t13
          have B13 := Lib.hid (B12.out.kept k13 (fun e => e rfl))
          clear ec1 ec2 e3 e4 t13 k13 hnd hnd'
          obtain ⟨⟨F1, s1⟩, ⟨F2, s2⟩, ⟨F3, s3⟩⟩ := T13.out.ses
          have SN1 := Lib.hid (show ∀ W', Kept (fun _ => False) w13 W' → Calls Tryz.prog 18 #[.pointer (some ⟨bt, 0, none⟩)] W' fun e w' => ∃ sv, e = .returned sv ∧ OwnBytes w' W' sv (snapB (ordP m P2)) ∧ Kept (fun _ => False) w13 w' ∧ Kept (fun _ => False) W' w' from by
            intro W' kk
            refine (ses_snap (s1.keep kk)).mono ?_
            rintro e w' ⟨sv, rfl, h1, h2⟩
            exact ⟨sv, rfl, h1, kk.trans h2 (fun _ _ e => e), h2⟩)
          have SN3 := Lib.hid (show ∀ W', Kept (fun _ => False) w13 W' → Calls Tryz.prog 18 #[.pointer (some ⟨bu, 0, none⟩)] W' fun e w' => ∃ sv, e = .returned sv ∧ OwnBytes w' W' sv (snapB (ordP m P2)) ∧ Kept (fun _ => False) w13 w' ∧ Kept (fun _ => False) W' w' from by
            intro W' kk
            rw [← E34.out]
            refine (ses_snap (s3.keep kk)).mono ?_
            rintro e w' ⟨sv, rfl, h1, h2⟩
            exact ⟨sv, rfl, h1, kk.trans h2 (fun _ _ e => e), h2⟩)
          have SN2 := Lib.hid (show ∀ W', Kept (fun _ => False) w13 W' → Calls Tryz.prog 14 #[.pointer (some ⟨br, 0, none⟩)] W' fun e w' => e = .returned (.string (snapB (ordP m P2))) ∧ Kept (fun _ => False) w13 w' ∧ Kept (fun _ => False) W' w' from by
            intro W' kk
            refine (rses_snap (s2.keep kk)).mono ?_
            rintro e w' ⟨rfl, h2⟩
            exact ⟨rfl, kk.trans h2 (fun _ _ e => e), h2⟩)
          have hself : ((snapB (ordP m P2)).toList == (snapB (ordP m P2)).toList) = true := bytes_self _
          generalize snapB (ordP m P2) = sp at SN1 SN2 SN3 hself
          clear s1 s2 s3 T9 T12 T6 B6 B9 B12
          gi_wp2_with fail
          refine wpW_region_held (S := fun _ => True) (by kernel_rfl) (by kernel_rfl) (by rintro ⟨_, _, h⟩; first | exact h.elim | (obtain ⟨h1, -⟩ := h; cases h1)) ?_ (fun hHeld => ?_)
          · trivial
          refine held_take 0 (oi := _) (v := ?_) rfl (by kernel_rfl) (by kernel_rfl) (by kernel_rfl) (fun _ _ _ h => h) (by rfl) (fun w hSw => ?_) (by assumption) ?_
          rotate_left
          · (try dsimp only at hSw); go_simp; try with_reducible rfl
          try simp only [Act.put, List.setIfInBounds_toArray, List.set_cons_zero, List.set_cons_succ]
          refine held_take 1 (oi := _) (v := ?_) rfl (by kernel_rfl) (by kernel_rfl) (by kernel_rfl) (fun _ _ _ h => h) (by rfl) (fun w hSw => ?_) (by assumption) ?_
          rotate_left
          · (try dsimp only at hSw); go_simp; try with_reducible rfl
          try simp only [Act.put, List.setIfInBounds_toArray, List.set_cons_zero, List.set_cons_succ]
          refine held_take 2 (oi := _) (v := ?_) rfl (by kernel_rfl) (by kernel_rfl) (by kernel_rfl) (fun _ _ _ h => h) (by rfl) (fun w hSw => ?_) (by assumption) ?_
          rotate_left
          · (try dsimp only at hSw); go_simp; try with_reducible rfl
          try simp only [Act.put, List.setIfInBounds_toArray, List.set_cons_zero, List.set_cons_succ]
          refine held_take 3 (oi := _) (v := ?_) rfl (by kernel_rfl) (by kernel_rfl) (by kernel_rfl) (fun _ _ _ h => h) (by rfl) (fun w hSw => ?_) (by assumption) ?_
          rotate_left
          · (try dsimp only at hSw); go_simp; try with_reducible rfl
          try simp only [Act.put, List.setIfInBounds_toArray, List.set_cons_zero, List.set_cons_succ]
          refine held_take 4 (oi := _) (v := ?_) rfl (by kernel_rfl) (by kernel_rfl) (by kernel_rfl) (fun _ _ _ h => h) (by rfl) (fun w hSw => ?_) (by assumption) ?_
          rotate_left
          · (try dsimp only at hSw); go_simp; try with_reducible rfl
          try simp only [Act.put, List.setIfInBounds_toArray, List.set_cons_zero, List.set_cons_succ]
          refine held_take 5 (oi := _) (v := ?_) rfl (by kernel_rfl) (by kernel_rfl) (by kernel_rfl) (fun _ _ _ h => h) (by rfl) (fun w hSw => ?_) (by assumption) ?_
          rotate_left
          · (try dsimp only at hSw); go_simp; try with_reducible rfl
          try simp only [Act.put, List.setIfInBounds_toArray, List.set_cons_zero, List.set_cons_succ]
          refine held_take 6 (oi := _) (v := ?_) rfl (by kernel_rfl) (by kernel_rfl) (by kernel_rfl) (fun _ _ _ h => h) (by rfl) (fun w hSw => ?_) (by assumption) ?_
          rotate_left
          · (try dsimp only at hSw); go_simp; try with_reducible rfl
          try simp only [Act.put, List.setIfInBounds_toArray, List.set_cons_zero, List.set_cons_succ]
          refine held_take 7 (oi := _) (v := ?_) rfl (by kernel_rfl) (by kernel_rfl) (by kernel_rfl) (fun _ _ _ h => h) (by rfl) (fun w hSw => ?_) (by assumption) ?_
          rotate_left
          · (try dsimp only at hSw); go_simp; try with_reducible rfl
          try simp only [Act.put, List.setIfInBounds_toArray, List.set_cons_zero, List.set_cons_succ]
          refine held_take 8 (oi := _) (v := ?_) rfl (by kernel_rfl) (by kernel_rfl) (by kernel_rfl) (fun _ _ _ h => h) (by rfl) (fun w hSw => ?_) (by assumption) ?_
          rotate_left
          · (try dsimp only at hSw); go_simp; try with_reducible rfl
          try simp only [Act.put, List.setIfInBounds_toArray, List.set_cons_zero, List.set_cons_succ]
          refine held_take 9 (oi := _) (v := ?_) rfl (by kernel_rfl) (by kernel_rfl) (by kernel_rfl) (fun _ _ _ h => h) (by rfl) (fun w hSw => ?_) (by assumption) ?_
          rotate_left
          · (try dsimp only at hSw); go_simp; try with_reducible rfl
          try simp only [Act.put, List.setIfInBounds_toArray, List.set_cons_zero, List.set_cons_succ]
          refine held_take 12 (oi := _) (v := ?_) rfl (by kernel_rfl) (by kernel_rfl) (by kernel_rfl) (fun _ _ _ h => h) (by rfl) (fun w hSw => ?_) (by assumption) ?_
          rotate_left
          · (try dsimp only at hSw); go_simp; try with_reducible rfl
          try simp only [Act.put, List.setIfInBounds_toArray, List.set_cons_zero, List.set_cons_succ]
          refine wpAnyH_ready (rs := [10]) (by kernel_rfl) (by simp) ?_
          refine held_cons 10 (o := _) rfl (fun KC hKC => ?_) AllReadyH.nil
          go_simp
          with_reducible refine Calls.mono (SN1.out _ ?_) ?_
          · first | fail | exact (Kept.refl _ _).twin ⟨rfl, rfl, rfl, rfl⟩
          rintro e1 wA ⟨vwA, rfl, hsX, kX, kY⟩
          obtain ⟨awA, cwA, rfl, -, hyX, -⟩ := hsX.form
          have hcwA := hyX.conv (c := cwA)
          have YwA := Lib.hid hyX
          have KwA := Lib.hid kX
          clear hsX hyX kX kY
          dsimp only
          refine hKC.out _ _ ?_ (fun hHeld => ?_)
          · trivial
          clear hKC KC
          try simp only [Act.put, List.setIfInBounds_toArray, List.set_cons_zero, List.set_cons_succ]
          refine wpAnyH_ready (rs := [11, 13]) (by kernel_rfl) (by simp) ?_
          refine held_cons 11 (o := _) rfl (fun KC hKC => ?_) (held_cons 13 (o := _) rfl (fun KC hKC => ?_) AllReadyH.nil)
          ·
            go_simp
            refine hKC.out _ _ ?_ (fun hHeld => ?_)
            · trivial
            clear hKC KC
            try simp only [Act.put, List.setIfInBounds_toArray, List.set_cons_zero, List.set_cons_succ]
            refine wpAnyH_ready (rs := [13]) (by kernel_rfl) (by simp) ?_
            refine held_cons 13 (o := _) rfl (fun KC hKC => ?_) AllReadyH.nil
            go_simp
            with_reducible refine Calls.mono (SN3.out _ ?_) ?_
            · first | exact KwA.out | exact (Kept.refl _ _).twin ⟨rfl, rfl, rfl, rfl⟩
            rintro e1 wB ⟨vwB, rfl, hsX, kX, kY⟩
            obtain ⟨awB, cwB, rfl, -, hyX, -⟩ := hsX.form
            have hcwB := hyX.conv (c := cwB)
            first | (have hcwAwB := (YwA.out.kept kY (fun _ _ _ e => e)).conv (c := cwA); skip) | skip
            have YwB := Lib.hid hyX
            have KwB := Lib.hid kX
            clear hsX hyX kX kY
            dsimp only
            refine hKC.out _ _ ?_ (fun hHeld => ?_)
            · trivial
            clear hKC KC
            try simp only [Act.put, List.setIfInBounds_toArray, List.set_cons_zero, List.set_cons_succ]
            refine wpAnyH_ready (rs := [14]) (by kernel_rfl) (by simp) ?_
            refine held_cons 14 (o := _) rfl (fun KC hKC => ?_) AllReadyH.nil
            go_simp
            refine hKC.out _ _ ?_ (fun hHeld => ?_)
            · trivial
            clear hKC KC
            try simp only [Act.put, List.setIfInBounds_toArray, List.set_cons_zero, List.set_cons_succ]
            refine held_take 15 (oi := _) (v := ?_) rfl (by kernel_rfl) (by kernel_rfl) (by kernel_rfl) (fun _ _ _ h => h) (by rfl) (fun w hSw => ?_) (by assumption) ?_
            rotate_left
            · (try dsimp only at hSw); go_simp; try with_reducible rfl
            try simp only [Act.put, List.setIfInBounds_toArray, List.set_cons_zero, List.set_cons_succ]
            refine held_take 16 (oi := _) (v := ?_) rfl (by kernel_rfl) (by kernel_rfl) (by kernel_rfl) (fun _ _ _ h => h) (by rfl) (fun w hSw => ?_) (by assumption) ?_
            rotate_left
            · (try dsimp only at hSw); go_simp; try with_reducible rfl
            try simp only [Act.put, List.setIfInBounds_toArray, List.set_cons_zero, List.set_cons_succ]
            refine held_take 17 (oi := _) (v := ?_) rfl (by kernel_rfl) (by kernel_rfl) (by kernel_rfl) (fun _ _ _ h => h) (by rfl) (fun w hSw => ?_) (by assumption) ?_
            rotate_left
            · (try dsimp only at hSw); go_simp; try with_reducible rfl
            try simp only [Act.put, List.setIfInBounds_toArray, List.set_cons_zero, List.set_cons_succ]
            refine held_take 18 (oi := _) (v := ?_) rfl (by kernel_rfl) (by kernel_rfl) (by kernel_rfl) (fun _ _ _ h => h) (by rfl) (fun w hSw => ?_) (by assumption) ?_
            rotate_left
            · (try dsimp only at hSw); go_simp; try with_reducible rfl
            try simp only [Act.put, List.setIfInBounds_toArray, List.set_cons_zero, List.set_cons_succ]
            refine held_take 21 (oi := _) (v := ?_) rfl (by kernel_rfl) (by kernel_rfl) (by kernel_rfl) (fun _ _ _ h => h) (by rfl) (fun w hSw => ?_) (by assumption) ?_
            rotate_left
            · (try dsimp only at hSw); go_simp; try with_reducible rfl
            try simp only [Act.put, List.setIfInBounds_toArray, List.set_cons_zero, List.set_cons_succ]
            refine wpAnyH_ready (rs := [19]) (by kernel_rfl) (by simp) ?_
            refine held_cons 19 (o := _) rfl (fun KC hKC => ?_) AllReadyH.nil
            go_simp
            with_reducible refine Calls.mono (SN1.out _ ?_) ?_
            · first | exact KwB.out | exact (Kept.refl _ _).twin ⟨rfl, rfl, rfl, rfl⟩
            rintro e1 wC ⟨vwC, rfl, hsX, kX, kY⟩
            obtain ⟨awC, cwC, rfl, -, hyX, -⟩ := hsX.form
            have hcwC := hyX.conv (c := cwC)
            have YwC := Lib.hid hyX
            have KwC := Lib.hid kX
            clear hsX hyX kX kY
            dsimp only
            refine hKC.out _ _ ?_ (fun hHeld => ?_)
            · trivial
            clear hKC KC
            try simp only [Act.put, List.setIfInBounds_toArray, List.set_cons_zero, List.set_cons_succ]
            refine wpAnyH_ready (rs := [20, 22]) (by kernel_rfl) (by simp) ?_
            refine held_cons 20 (o := _) rfl (fun KC hKC => ?_) (held_cons 22 (o := _) rfl (fun KC hKC => ?_) AllReadyH.nil)
            ·
              go_simp
              refine hKC.out _ _ ?_ (fun hHeld => ?_)
              · trivial
              clear hKC KC
              try simp only [Act.put, List.setIfInBounds_toArray, List.set_cons_zero, List.set_cons_succ]
              refine wpAnyH_ready (rs := [22]) (by kernel_rfl) (by simp) ?_
              refine held_cons 22 (o := _) rfl (fun KC hKC => ?_) AllReadyH.nil
              go_simp
              with_reducible refine Calls.mono (SN2.out _ ?_) ?_
              · exact KwC.out
              rintro e1 wD ⟨rfl, kX, kY⟩
              have hcCD := (YwC.out.kept kY (fun _ _ _ e => e)).conv (c := cwC)
              have KwD := Lib.hid kX
              clear kX kY
              dsimp only
              refine hKC.out _ _ ?_ (fun hHeld => ?_)
              · trivial
              clear hKC KC
              try simp only [Act.put, List.setIfInBounds_toArray, List.set_cons_zero, List.set_cons_succ]
              refine held_take 23 (oi := _) (v := ?_) rfl (by kernel_rfl) (by kernel_rfl) (by kernel_rfl) (fun _ _ _ h => h) (by rfl) (fun w hSw => ?_) (by assumption) ?_
              rotate_left
              · (try dsimp only at hSw); go_simp; try with_reducible rfl
              try simp only [Act.put, List.setIfInBounds_toArray, List.set_cons_zero, List.set_cons_succ]
              refine held_take 24 (oi := _) (v := ?_) rfl (by kernel_rfl) (by kernel_rfl) (by kernel_rfl) (fun _ _ _ h => h) (by rfl) (fun w hSw => ?_) (by assumption) ?_
              rotate_left
              · (try dsimp only at hSw); go_simp; try with_reducible rfl
              try simp only [Act.put, List.setIfInBounds_toArray, List.set_cons_zero, List.set_cons_succ]
              refine wpAnyH_done (by kernel_rfl) (NoPanic.normal ?_) _
              gi_wp2_with fail
              go_roundw
              case rel =>
                exact ⟨k + 1, P2, P2', by omega, by omega, by go_num, T13.out.keep KwD.out, E34.out, B13.out.kept KwD.out (fun e => e)⟩
              case measure => simp [intOf]; omega
            ·
              go_simp
              with_reducible refine Calls.mono (SN2.out _ ?_) ?_
              · exact KwC.out
              rintro e1 wD ⟨rfl, kX, kY⟩
              have hcCD := (YwC.out.kept kY (fun _ _ _ e => e)).conv (c := cwC)
              have KwD := Lib.hid kX
              clear kX kY
              dsimp only
              refine hKC.out _ _ ?_ (fun hHeld => ?_)
              · trivial
              clear hKC KC
              try simp only [Act.put, List.setIfInBounds_toArray, List.set_cons_zero, List.set_cons_succ]
              refine wpAnyH_ready (rs := [20]) (by kernel_rfl) (by simp) ?_
              refine held_cons 20 (o := _) rfl (fun KC hKC => ?_) AllReadyH.nil
              go_simp
              refine hKC.out _ _ ?_ (fun hHeld => ?_)
              · trivial
              clear hKC KC
              try simp only [Act.put, List.setIfInBounds_toArray, List.set_cons_zero, List.set_cons_succ]
              refine held_take 23 (oi := _) (v := ?_) rfl (by kernel_rfl) (by kernel_rfl) (by kernel_rfl) (fun _ _ _ h => h) (by rfl) (fun w hSw => ?_) (by assumption) ?_
              rotate_left
              · (try dsimp only at hSw); go_simp; try with_reducible rfl
              try simp only [Act.put, List.setIfInBounds_toArray, List.set_cons_zero, List.set_cons_succ]
              refine held_take 24 (oi := _) (v := ?_) rfl (by kernel_rfl) (by kernel_rfl) (by kernel_rfl) (fun _ _ _ h => h) (by rfl) (fun w hSw => ?_) (by assumption) ?_
              rotate_left
              · (try dsimp only at hSw); go_simp; try with_reducible rfl
              try simp only [Act.put, List.setIfInBounds_toArray, List.set_cons_zero, List.set_cons_succ]
              refine wpAnyH_done (by kernel_rfl) (NoPanic.normal ?_) _
              gi_wp2_with fail
              go_roundw
              case rel =>
                exact ⟨k + 1, P2, P2', by omega, by omega, by go_num, T13.out.keep KwD.out, E34.out, B13.out.kept KwD.out (fun e => e)⟩
              case measure => simp [intOf]; omega
          ·
            go_simp
            with_reducible refine Calls.mono (SN3.out _ ?_) ?_
            · first | exact KwA.out | exact (Kept.refl _ _).twin ⟨rfl, rfl, rfl, rfl⟩
            rintro e1 wB ⟨vwB, rfl, hsX, kX, kY⟩
            obtain ⟨awB, cwB, rfl, -, hyX, -⟩ := hsX.form
            have hcwB := hyX.conv (c := cwB)
            first | (have hcwAwB := (YwA.out.kept kY (fun _ _ _ e => e)).conv (c := cwA); skip) | skip
            have YwB := Lib.hid hyX
            have KwB := Lib.hid kX
            clear hsX hyX kX kY
            dsimp only
            refine hKC.out _ _ ?_ (fun hHeld => ?_)
            · trivial
            clear hKC KC
            try simp only [Act.put, List.setIfInBounds_toArray, List.set_cons_zero, List.set_cons_succ]
            refine wpAnyH_ready (rs := [11, 14]) (by kernel_rfl) (by simp) ?_
            refine held_cons 11 (o := _) rfl (fun KC hKC => ?_) (held_cons 14 (o := _) rfl (fun KC hKC => ?_) AllReadyH.nil)
            ·
              go_simp
              refine hKC.out _ _ ?_ (fun hHeld => ?_)
              · trivial
              clear hKC KC
              try simp only [Act.put, List.setIfInBounds_toArray, List.set_cons_zero, List.set_cons_succ]
              refine wpAnyH_ready (rs := [14]) (by kernel_rfl) (by simp) ?_
              refine held_cons 14 (o := _) rfl (fun KC hKC => ?_) AllReadyH.nil
              go_simp
              refine hKC.out _ _ ?_ (fun hHeld => ?_)
              · trivial
              clear hKC KC
              try simp only [Act.put, List.setIfInBounds_toArray, List.set_cons_zero, List.set_cons_succ]
              refine held_take 15 (oi := _) (v := ?_) rfl (by kernel_rfl) (by kernel_rfl) (by kernel_rfl) (fun _ _ _ h => h) (by rfl) (fun w hSw => ?_) (by assumption) ?_
              rotate_left
              · (try dsimp only at hSw); go_simp; try with_reducible rfl
              try simp only [Act.put, List.setIfInBounds_toArray, List.set_cons_zero, List.set_cons_succ]
              refine held_take 16 (oi := _) (v := ?_) rfl (by kernel_rfl) (by kernel_rfl) (by kernel_rfl) (fun _ _ _ h => h) (by rfl) (fun w hSw => ?_) (by assumption) ?_
              rotate_left
              · (try dsimp only at hSw); go_simp; try with_reducible rfl
              try simp only [Act.put, List.setIfInBounds_toArray, List.set_cons_zero, List.set_cons_succ]
              refine held_take 17 (oi := _) (v := ?_) rfl (by kernel_rfl) (by kernel_rfl) (by kernel_rfl) (fun _ _ _ h => h) (by rfl) (fun w hSw => ?_) (by assumption) ?_
              rotate_left
              · (try dsimp only at hSw); go_simp; try with_reducible rfl
              try simp only [Act.put, List.setIfInBounds_toArray, List.set_cons_zero, List.set_cons_succ]
              refine held_take 18 (oi := _) (v := ?_) rfl (by kernel_rfl) (by kernel_rfl) (by kernel_rfl) (fun _ _ _ h => h) (by rfl) (fun w hSw => ?_) (by assumption) ?_
              rotate_left
              · (try dsimp only at hSw); go_simp; try with_reducible rfl
              try simp only [Act.put, List.setIfInBounds_toArray, List.set_cons_zero, List.set_cons_succ]
              refine held_take 21 (oi := _) (v := ?_) rfl (by kernel_rfl) (by kernel_rfl) (by kernel_rfl) (fun _ _ _ h => h) (by rfl) (fun w hSw => ?_) (by assumption) ?_
              rotate_left
              · (try dsimp only at hSw); go_simp; try with_reducible rfl
              try simp only [Act.put, List.setIfInBounds_toArray, List.set_cons_zero, List.set_cons_succ]
              refine wpAnyH_ready (rs := [19]) (by kernel_rfl) (by simp) ?_
              refine held_cons 19 (o := _) rfl (fun KC hKC => ?_) AllReadyH.nil
              go_simp
              with_reducible refine Calls.mono (SN1.out _ ?_) ?_
              · first | exact KwB.out | exact (Kept.refl _ _).twin ⟨rfl, rfl, rfl, rfl⟩
              rintro e1 wC ⟨vwC, rfl, hsX, kX, kY⟩
              obtain ⟨awC, cwC, rfl, -, hyX, -⟩ := hsX.form
              have hcwC := hyX.conv (c := cwC)
              have YwC := Lib.hid hyX
              have KwC := Lib.hid kX
              clear hsX hyX kX kY
              dsimp only
              refine hKC.out _ _ ?_ (fun hHeld => ?_)
              · trivial
              clear hKC KC
              try simp only [Act.put, List.setIfInBounds_toArray, List.set_cons_zero, List.set_cons_succ]
              refine wpAnyH_ready (rs := [20, 22]) (by kernel_rfl) (by simp) ?_
              refine held_cons 20 (o := _) rfl (fun KC hKC => ?_) (held_cons 22 (o := _) rfl (fun KC hKC => ?_) AllReadyH.nil)
              ·
                go_simp
                refine hKC.out _ _ ?_ (fun hHeld => ?_)
                · trivial
                clear hKC KC
                try simp only [Act.put, List.setIfInBounds_toArray, List.set_cons_zero, List.set_cons_succ]
                refine wpAnyH_ready (rs := [22]) (by kernel_rfl) (by simp) ?_
                refine held_cons 22 (o := _) rfl (fun KC hKC => ?_) AllReadyH.nil
                go_simp
                with_reducible refine Calls.mono (SN2.out _ ?_) ?_
                · exact KwC.out
                rintro e1 wD ⟨rfl, kX, kY⟩
                have hcCD := (YwC.out.kept kY (fun _ _ _ e => e)).conv (c := cwC)
                have KwD := Lib.hid kX
                clear kX kY
                dsimp only
                refine hKC.out _ _ ?_ (fun hHeld => ?_)
                · trivial
                clear hKC KC
                try simp only [Act.put, List.setIfInBounds_toArray, List.set_cons_zero, List.set_cons_succ]
                refine held_take 23 (oi := _) (v := ?_) rfl (by kernel_rfl) (by kernel_rfl) (by kernel_rfl) (fun _ _ _ h => h) (by rfl) (fun w hSw => ?_) (by assumption) ?_
                rotate_left
                · (try dsimp only at hSw); go_simp; try with_reducible rfl
                try simp only [Act.put, List.setIfInBounds_toArray, List.set_cons_zero, List.set_cons_succ]
                refine held_take 24 (oi := _) (v := ?_) rfl (by kernel_rfl) (by kernel_rfl) (by kernel_rfl) (fun _ _ _ h => h) (by rfl) (fun w hSw => ?_) (by assumption) ?_
                rotate_left
                · (try dsimp only at hSw); go_simp; try with_reducible rfl
                try simp only [Act.put, List.setIfInBounds_toArray, List.set_cons_zero, List.set_cons_succ]
                refine wpAnyH_done (by kernel_rfl) (NoPanic.normal ?_) _
                gi_wp2_with fail
                go_roundw
                case rel =>
                  exact ⟨k + 1, P2, P2', by omega, by omega, by go_num, T13.out.keep KwD.out, E34.out, B13.out.kept KwD.out (fun e => e)⟩
                case measure => simp [intOf]; omega
              ·
                go_simp
                with_reducible refine Calls.mono (SN2.out _ ?_) ?_
                · exact KwC.out
                rintro e1 wD ⟨rfl, kX, kY⟩
                have hcCD := (YwC.out.kept kY (fun _ _ _ e => e)).conv (c := cwC)
                have KwD := Lib.hid kX
                clear kX kY
                dsimp only
                refine hKC.out _ _ ?_ (fun hHeld => ?_)
                · trivial
                clear hKC KC
                try simp only [Act.put, List.setIfInBounds_toArray, List.set_cons_zero, List.set_cons_succ]
                refine wpAnyH_ready (rs := [20]) (by kernel_rfl) (by simp) ?_
                refine held_cons 20 (o := _) rfl (fun KC hKC => ?_) AllReadyH.nil
                go_simp
                refine hKC.out _ _ ?_ (fun hHeld => ?_)
                · trivial
                clear hKC KC
                try simp only [Act.put, List.setIfInBounds_toArray, List.set_cons_zero, List.set_cons_succ]
                refine held_take 23 (oi := _) (v := ?_) rfl (by kernel_rfl) (by kernel_rfl) (by kernel_rfl) (fun _ _ _ h => h) (by rfl) (fun w hSw => ?_) (by assumption) ?_
                rotate_left
                · (try dsimp only at hSw); go_simp; try with_reducible rfl
                try simp only [Act.put, List.setIfInBounds_toArray, List.set_cons_zero, List.set_cons_succ]
                refine held_take 24 (oi := _) (v := ?_) rfl (by kernel_rfl) (by kernel_rfl) (by kernel_rfl) (fun _ _ _ h => h) (by rfl) (fun w hSw => ?_) (by assumption) ?_
                rotate_left
                · (try dsimp only at hSw); go_simp; try with_reducible rfl
                try simp only [Act.put, List.setIfInBounds_toArray, List.set_cons_zero, List.set_cons_succ]
                refine wpAnyH_done (by kernel_rfl) (NoPanic.normal ?_) _
                gi_wp2_with fail
                go_roundw
                case rel =>
                  exact ⟨k + 1, P2, P2', by omega, by omega, by go_num, T13.out.keep KwD.out, E34.out, B13.out.kept KwD.out (fun e => e)⟩
                case measure => simp [intOf]; omega
            ·
              go_simp
              refine hKC.out _ _ ?_ (fun hHeld => ?_)
              · trivial
              clear hKC KC
              try simp only [Act.put, List.setIfInBounds_toArray, List.set_cons_zero, List.set_cons_succ]
              refine wpAnyH_ready (rs := [11]) (by kernel_rfl) (by simp) ?_
              refine held_cons 11 (o := _) rfl (fun KC hKC => ?_) AllReadyH.nil
              go_simp
              refine hKC.out _ _ ?_ (fun hHeld => ?_)
              · trivial
              clear hKC KC
              try simp only [Act.put, List.setIfInBounds_toArray, List.set_cons_zero, List.set_cons_succ]
              refine held_take 15 (oi := _) (v := ?_) rfl (by kernel_rfl) (by kernel_rfl) (by kernel_rfl) (fun _ _ _ h => h) (by rfl) (fun w hSw => ?_) (by assumption) ?_
              rotate_left
              · (try dsimp only at hSw); go_simp; try with_reducible rfl
              try simp only [Act.put, List.setIfInBounds_toArray, List.set_cons_zero, List.set_cons_succ]
              refine held_take 16 (oi := _) (v := ?_) rfl (by kernel_rfl) (by kernel_rfl) (by kernel_rfl) (fun _ _ _ h => h) (by rfl) (fun w hSw => ?_) (by assumption) ?_
              rotate_left
              · (try dsimp only at hSw); go_simp; try with_reducible rfl
              try simp only [Act.put, List.setIfInBounds_toArray, List.set_cons_zero, List.set_cons_succ]
              refine held_take 17 (oi := _) (v := ?_) rfl (by kernel_rfl) (by kernel_rfl) (by kernel_rfl) (fun _ _ _ h => h) (by rfl) (fun w hSw => ?_) (by assumption) ?_
              rotate_left
              · (try dsimp only at hSw); go_simp; try with_reducible rfl
              try simp only [Act.put, List.setIfInBounds_toArray, List.set_cons_zero, List.set_cons_succ]
              refine held_take 18 (oi := _) (v := ?_) rfl (by kernel_rfl) (by kernel_rfl) (by kernel_rfl) (fun _ _ _ h => h) (by rfl) (fun w hSw => ?_) (by assumption) ?_
              rotate_left
              · (try dsimp only at hSw); go_simp; try with_reducible rfl
              try simp only [Act.put, List.setIfInBounds_toArray, List.set_cons_zero, List.set_cons_succ]
              refine held_take 21 (oi := _) (v := ?_) rfl (by kernel_rfl) (by kernel_rfl) (by kernel_rfl) (fun _ _ _ h => h) (by rfl) (fun w hSw => ?_) (by assumption) ?_
              rotate_left
              · (try dsimp only at hSw); go_simp; try with_reducible rfl
              try simp only [Act.put, List.setIfInBounds_toArray, List.set_cons_zero, List.set_cons_succ]
              refine wpAnyH_ready (rs := [19]) (by kernel_rfl) (by simp) ?_
              refine held_cons 19 (o := _) rfl (fun KC hKC => ?_) AllReadyH.nil
              go_simp
              with_reducible refine Calls.mono (SN1.out _ ?_) ?_
              · first | exact KwB.out | exact (Kept.refl _ _).twin ⟨rfl, rfl, rfl, rfl⟩
              rintro e1 wC ⟨vwC, rfl, hsX, kX, kY⟩
              obtain ⟨awC, cwC, rfl, -, hyX, -⟩ := hsX.form
              have hcwC := hyX.conv (c := cwC)
              have YwC := Lib.hid hyX
              have KwC := Lib.hid kX
              clear hsX hyX kX kY
              dsimp only
              refine hKC.out _ _ ?_ (fun hHeld => ?_)
              · trivial
              clear hKC KC
              try simp only [Act.put, List.setIfInBounds_toArray, List.set_cons_zero, List.set_cons_succ]
              refine wpAnyH_ready (rs := [20, 22]) (by kernel_rfl) (by simp) ?_
              refine held_cons 20 (o := _) rfl (fun KC hKC => ?_) (held_cons 22 (o := _) rfl (fun KC hKC => ?_) AllReadyH.nil)
              ·
                go_simp
                refine hKC.out _ _ ?_ (fun hHeld => ?_)
                · trivial
                clear hKC KC
                try simp only [Act.put, List.setIfInBounds_toArray, List.set_cons_zero, List.set_cons_succ]
                refine wpAnyH_ready (rs := [22]) (by kernel_rfl) (by simp) ?_
                refine held_cons 22 (o := _) rfl (fun KC hKC => ?_) AllReadyH.nil
                go_simp
                with_reducible refine Calls.mono (SN2.out _ ?_) ?_
                · exact KwC.out
                rintro e1 wD ⟨rfl, kX, kY⟩
                have hcCD := (YwC.out.kept kY (fun _ _ _ e => e)).conv (c := cwC)
                have KwD := Lib.hid kX
                clear kX kY
                dsimp only
                refine hKC.out _ _ ?_ (fun hHeld => ?_)
                · trivial
                clear hKC KC
                try simp only [Act.put, List.setIfInBounds_toArray, List.set_cons_zero, List.set_cons_succ]
                refine held_take 23 (oi := _) (v := ?_) rfl (by kernel_rfl) (by kernel_rfl) (by kernel_rfl) (fun _ _ _ h => h) (by rfl) (fun w hSw => ?_) (by assumption) ?_
                rotate_left
                · (try dsimp only at hSw); go_simp; try with_reducible rfl
                try simp only [Act.put, List.setIfInBounds_toArray, List.set_cons_zero, List.set_cons_succ]
                refine held_take 24 (oi := _) (v := ?_) rfl (by kernel_rfl) (by kernel_rfl) (by kernel_rfl) (fun _ _ _ h => h) (by rfl) (fun w hSw => ?_) (by assumption) ?_
                rotate_left
                · (try dsimp only at hSw); go_simp; try with_reducible rfl
                try simp only [Act.put, List.setIfInBounds_toArray, List.set_cons_zero, List.set_cons_succ]
                refine wpAnyH_done (by kernel_rfl) (NoPanic.normal ?_) _
                gi_wp2_with fail
                go_roundw
                case rel =>
                  exact ⟨k + 1, P2, P2', by omega, by omega, by go_num, T13.out.keep KwD.out, E34.out, B13.out.kept KwD.out (fun e => e)⟩
                case measure => simp [intOf]; omega
              ·
                go_simp
                with_reducible refine Calls.mono (SN2.out _ ?_) ?_
                · exact KwC.out
                rintro e1 wD ⟨rfl, kX, kY⟩
                have hcCD := (YwC.out.kept kY (fun _ _ _ e => e)).conv (c := cwC)
                have KwD := Lib.hid kX
                clear kX kY
                dsimp only
                refine hKC.out _ _ ?_ (fun hHeld => ?_)
                · trivial
                clear hKC KC
                try simp only [Act.put, List.setIfInBounds_toArray, List.set_cons_zero, List.set_cons_succ]
                refine wpAnyH_ready (rs := [20]) (by kernel_rfl) (by simp) ?_
                refine held_cons 20 (o := _) rfl (fun KC hKC => ?_) AllReadyH.nil
                go_simp
                refine hKC.out _ _ ?_ (fun hHeld => ?_)
                · trivial
                clear hKC KC
                try simp only [Act.put, List.setIfInBounds_toArray, List.set_cons_zero, List.set_cons_succ]
                refine held_take 23 (oi := _) (v := ?_) rfl (by kernel_rfl) (by kernel_rfl) (by kernel_rfl) (fun _ _ _ h => h) (by rfl) (fun w hSw => ?_) (by assumption) ?_
                rotate_left
                · (try dsimp only at hSw); go_simp; try with_reducible rfl
                try simp only [Act.put, List.setIfInBounds_toArray, List.set_cons_zero, List.set_cons_succ]
                refine held_take 24 (oi := _) (v := ?_) rfl (by kernel_rfl) (by kernel_rfl) (by kernel_rfl) (fun _ _ _ h => h) (by rfl) (fun w hSw => ?_) (by assumption) ?_
                rotate_left
                · (try dsimp only at hSw); go_simp; try with_reducible rfl
                try simp only [Act.put, List.setIfInBounds_toArray, List.set_cons_zero, List.set_cons_succ]
                refine wpAnyH_done (by kernel_rfl) (NoPanic.normal ?_) _
                gi_wp2_with fail
                go_roundw
                case rel =>
                  exact ⟨k + 1, P2, P2', by omega, by omega, by go_num, T13.out.keep KwD.out, E34.out, B13.out.kept KwD.out (fun e => e)⟩
                case measure => simp [intOf]; omega
    · have hsp : (k < n' ∧ k = 15) ∨ ¬ k < n' := by omega
      have FIN := Lib.hid (K1.out.trans TR.out.1.back (fun _ _ e => e))
      clear c2 c3
      rcases hsp with ⟨h1, h2⟩ | h1
      all_goals
        gi_wp2_with fail
        refine leaves_marks [] _ (by simp) (fun d hd => by cases hd) (fun W' kd' => ?_)
        exact ⟨_, results_tmp rfl _ _ _, rfl, FIN.out.trans kd' (fun _ _ e => by cases e)⟩
end Go.Proofs.YtjkgimloafpipaaGreat
