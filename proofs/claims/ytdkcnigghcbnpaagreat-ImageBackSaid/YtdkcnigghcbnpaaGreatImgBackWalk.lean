/- law18.ImageBack answers true. -/
import Derived.Test.YtdkcnigghcbnpaaGreatImgF
namespace Go.Proofs.YtdkcnigghcbnpaaGreat
set_option linter.unusedVariables false
set_option linter.unusedSimpArgs false
open Go.RowKit Go.MapKept

set_option maxRecDepth 100000 in
set_option maxHeartbeats 4000000 in
theorem imageBack_any (v : Value) (x : GI) (ma : Option Addr) (mn mc : Nat) (ms : Nat → Int) (W : World) (hx : ImgAt W (fun b => b < W.heap.size) v x) (hl : x.P.length ≤ 9223372036854775807 ∧ x.D.length ≤ 9223372036854775807 ∧ x.L.length ≤ 9223372036854775807) (hms : Octets W ma mn ms) (hmc : mn ≤ mc) (hmx : mc ≤ 9223372036854775807) :
    Calls Tryz.prog 8 #[v, .slice ma mn mc] W fun e w' => e = .returned (.bool true) ∧ Kept (fun _ => False) W w' := by
  have MB0 := Lib.hid (bytes_of_octets hms)
  have HX := Lib.hid hx
  obtain ⟨pa, pc, da, dc, la, lc, rfl, -, -, -, -, -, -⟩ := hx
  obtain ⟨n1, hn1⟩ : ∃ n1, x.P.length = n1 := ⟨_, rfl⟩
  obtain ⟨n2, hn2⟩ : ∃ n2, x.D.length = n2 := ⟨_, rfl⟩
  obtain ⟨n3, hn3⟩ : ∃ n3, x.L.length = n3 := ⟨_, rfl⟩
  rw [hn1, hn2, hn3] at HX ⊢
  have HLL := Lib.hid hl
  obtain ⟨M, hM⟩ : ∃ M, min mn 4000 = M := ⟨_, rfl⟩
  have hm20 : min (mn : Int) 4000 = (M : Int) := by omega
  have hM1 : M ≤ mc := by omega
  have HM := Lib.hid (show M ≤ mn ∧ M ≤ 4000 from by omega)
  have HMC := Lib.hid hM1
  obtain ⟨ML, hML⟩ : ∃ ML, ((bytesOf ms mn).data.toList).take M = ML := ⟨_, rfl⟩
  have MB := Lib.hid (show BytesAt W ma M (baL ML) from by
    have h1 := MB0.out.pre HM.out.1
    rw [← ba_self (bytesOf ms mn), sub_baL, hML] at h1
    exact h1)
  have HML := Lib.hid (show ML.length = M from by have h := MB.out.1; rw [baL_size] at h; exact h.symm)
  clear hms hl hn1 hn2 hn3 hM hML MB0
  obtain ⟨ib, hib⟩ : ∃ ib, W.heap.size = ib := ⟨_, rfl⟩
  go_enter Tryz.func8, Tryz.ntmps8
  go_wp2_with fail
  have kq := Kept.one_alloc W (.cells #[.slice pa n1 pc, .slice da n2 dc, .slice la n3 lc] 75)
  have hcel := fun i => World.cell?_alloc_new W #[.slice pa n1 pc, .slice da n2 dc, .slice la n3 lc] 75 i
  refine (shown18_any _).mono ?_
  rintro e w1 ⟨rfl, k1⟩
  have hl1 : ib < (W.alloc (.cells #[.slice pa n1 pc, .slice da n2 dc, .slice la n3 lc] 75)).heap.size := by rw [← hib]; simp
  rw [hib] at hcel
  have c0 := (k1.cell (p := ⟨ib, 0, none⟩) hl1 (fun e => e)).trans (hcel 0)
  have c1 := (k1.cell (p := ⟨ib, 1, none⟩) hl1 (fun e => e)).trans (hcel 1)
  have c2 := (k1.cell (p := ⟨ib, 2, none⟩) hl1 (fun e => e)).trans (hcel 2)
  simp at c0 c1 c2
  have K1 := Lib.hid (kq.trans k1 (fun _ _ e => e))
  have hib1 := Nat.lt_of_lt_of_le hl1 k1.size
  have hbk := (k1.block _ hl1 (fun e => e)).trans (show (W.alloc (.cells #[.slice pa n1 pc, .slice da n2 dc, .slice la n3 lc] 75)).heap[ib]? = some (.cells #[.slice pa n1 pc, .slice da n2 dc, .slice la n3 lc] 75 (0, 0)) from by rw [← hib]; exact heap_alloc_new W _)
  clear k1 kq hcel hl1
  go_wp2_with fail
  refine (few_any (HX.out.keep K1.out) HLL.out).mono ?_
  rintro e w2 ⟨v', rfl, hx2, k2⟩
  have X2 := Lib.hid hx2
  have Kf := Lib.hid (K1.out.trans k2 (fun _ _ e => e))
  have hib2 : ib < w2.heap.size := Nat.lt_of_lt_of_le hib1 k2.size
  have d0 := (k2.cell (p := ⟨ib, 0, none⟩) hib1 (fun e => e)).trans c0
  have d1 := (k2.cell (p := ⟨ib, 1, none⟩) hib1 (fun e => e)).trans c1
  have d2 := (k2.cell (p := ⟨ib, 2, none⟩) hib1 (fun e => e)).trans c2
  have BK := Lib.hid ((k2.block _ hib1 (fun e => e)).trans hbk)
  have f0 := (show RowAt w2 ib 3 from ⟨_, _, BK.out, rfl⟩).frozen 0
  have f1 := (show RowAt w2 ib 3 from ⟨_, _, BK.out, rfl⟩).frozen 1
  have f2 := (show RowAt w2 ib 3 from ⟨_, _, BK.out, rfl⟩).frozen 2
  have HIB := Lib.hid (show W.heap.size ≤ ib from Nat.le_of_eq hib)
  clear k2 c0 c1 c2 hib1 hbk hib
  obtain ⟨qa, qc, ea, ec, ma', mc', rfl, -, -, -, -, -, -⟩ := hx2
  obtain ⟨n1, hn1⟩ : ∃ n1, (fewI x).P.length = n1 := ⟨_, rfl⟩
  obtain ⟨n2, hn2⟩ : ∃ n2, (fewI x).D.length = n2 := ⟨_, rfl⟩
  obtain ⟨n3, hn3⟩ : ∃ n3, (fewI x).L.length = n3 := ⟨_, rfl⟩
  rw [hn1, hn2, hn3] at X2 ⊢
  clear hn1 hn2 hn3
  go_upto_region 3 with fail
  obtain ⟨w3, hw3, hx3, k3, hb3⟩ := few_put BK.out ⟨_, _, _, rfl⟩ ⟨_, _, _, rfl⟩ ⟨_, _, _, rfl⟩ X2.out
  rw [hw3]
  have X3 := Lib.hid hx3
  have K3 := Lib.hid (show Kept (fun _ => False) W w3 from Kf.out.trans k3 (fun b hb e => by have := HIB.out; omega))
  have e0 : ∀ i, w3.cell? ⟨ib, i, none⟩ = (#[.slice qa n1 qc, .slice ea n2 ec, .slice ma' n3 mc'] : Array Value)[i]? := fun i => by simp [World.cell?, hb3]
  have c0 := e0 0
  have c1 := e0 1
  have c2 := e0 2
  simp at c0 c1 c2
  have hib3 : ib < w3.heap.size := Nat.lt_of_lt_of_le hib2 k3.size
  clear hx3 k3 hb3 e0 d0 d1 d2 f0 f1 f2 hib2 hw3
  go_wp2_with fail
  refine (encode_any X3.out (few_small x) (few_d5 x)).mono ?_
  rintro e w4 ⟨k4, hor⟩
  have K4 := Lib.hid (K3.out.trans k4 (fun _ _ e => e))
  have hib4 : ib < w4.heap.size := Nat.lt_of_lt_of_le hib3 k4.size
  have X4 := Lib.hid (X3.out.keep k4)
  have d0 := (k4.cell (p := ⟨ib, 0, none⟩) hib3 (fun e => e)).trans c0
  have d1 := (k4.cell (p := ⟨ib, 1, none⟩) hib3 (fun e => e)).trans c1
  have d2 := (k4.cell (p := ⟨ib, 2, none⟩) hib3 (fun e => e)).trans c2
  clear c0 c1 c2 hib3 k4 hm20 hM1
  rcases hor with ⟨hr, sv, rfl, hown, -⟩ | ⟨hr, rfl⟩
  case' inr =>
    go_wp2_with fail
    have KT := Lib.hid K4.out
    have hdk := decode_row (c := mc) (L := ML) (by rw [HML.out]; exact MB.out.kept KT.out (fun _ _ _ e => e)) (by rw [HML.out]; exact HMC.out) (by rw [HML.out]; have := HM.out; omega)
    rw [HML.out] at hdk
    refine hdk.mono ?_
    rintro e w7 ⟨k7, hor⟩
    clear hdk
    rcases hor with ⟨z, vz, hz, rfl, hzi⟩ | ⟨hz, rfl⟩
    case' inr =>
      have K7 := Lib.hid (KT.out.trans (k7.trans (Kept.one_alloc w7 (.cells #[.slice none 0 0, .slice none 0 0, .slice none 0 0] 75)) (fun _ _ e => e)) (fun _ _ e => e))
      clear k7 hz
      go_wp2_with fail
      go_ret
      exact ⟨rfl, K7.out⟩
    obtain ⟨hr2, hb2⟩ := enc_dec hz
    have HB2 := Lib.hid hb2
    have H5 := Lib.hid (show ∀ d ∈ z.D, d.data.size ≤ 5000 from fun d hd => by have := data_le hd; rw [← HB2.out, HML.out] at this; have := HM.out; omega)
    have HR2 := Lib.hid hr2
    have K7 := Lib.hid (KT.out.trans k7 (fun _ _ e => e))
    have ZI := Lib.hid hzi
    obtain ⟨ra', rc', sa', sc', ta', tc', rfl, -, -, -, -, -, -⟩ := hzi
    obtain ⟨p1, hp1⟩ : ∃ n1, z.P.length = n1 := ⟨_, rfl⟩
    obtain ⟨p2, hp2⟩ : ∃ n2, z.D.length = n2 := ⟨_, rfl⟩
    obtain ⟨p3, hp3⟩ : ∃ n3, z.L.length = n3 := ⟨_, rfl⟩
    rw [hp1, hp2, hp3] at ZI ⊢
    clear hp1 hp2 hp3 k7 hz hr2 hb2
    go_wp2_with fail
    have k8 := Kept.one_alloc w7 (.cells #[.slice ra' p1 rc', .slice sa' p2 sc', .slice ta' p3 tc'] 75)
    refine (encode_any (ZI.out.keep k8) (right_small HR2.out H5.out) H5.out).mono ?_
    rintro e w9 ⟨k9, ⟨-, sv, rfl, hown, -⟩ | ⟨hf, -⟩⟩
    case' inr =>
      rw [HR2.out] at hf
      cases hf
    have K9 := Lib.hid (K7.out.trans (k8.trans k9 (fun _ _ e => e)) (fun _ _ e => e))
    obtain ⟨xa, xc, rfl, -, hby, -⟩ := own_u8 hown
    rw [← HB2.out] at hby ⊢
    have hcv := hby.conv (c := xc)
    have hcb := (MB.out.kept K9.out (fun _ _ _ e => e)).conv (c := mc)
    have hs := bytes_self (baL ML)
    rw [HML.out] at hcv ⊢
    clear hby hown k8 k9
    go_wp2_with fail
    go_ret
    exact ⟨rfl, K9.out⟩
  obtain ⟨ca, cc, rfl, hcc, hby, -⟩ := own_u8 hown
  have HB := Lib.hid (And.intro hcc (And.intro hby (enc_len hr (few_d5 x))))
  obtain ⟨n, hn⟩ : ∃ n, (encI (fewI x)).length = n := ⟨_, rfl⟩
  rw [hn]
  have HN := Lib.hid hn
  have HR := Lib.hid hr
  clear hown hcc hby hn hr
  go_wp2_with fail
  rw [← HN.out]
  refine (decode_row HB.out.2.1 HB.out.1 (Nat.le_trans HB.out.2.2 (by decide))).mono ?_
  rintro e w5 ⟨k5, ⟨y, v5, hd, rfl, hy⟩ | ⟨hd, -⟩⟩
  case' inr =>
    rw [dec_enc HR.out] at hd
    cases hd
  rw [dec_enc HR.out] at hd
  obtain rfl := Option.some.inj hd
  clear hd
  have Y5 := Lib.hid hy
  obtain ⟨ra, rc, sa, sc, ta, tc, rfl, -, -, -, -, -, -⟩ := hy
  obtain ⟨m1, hm1⟩ : ∃ n1, (fewI x).P.length = n1 := ⟨_, rfl⟩
  obtain ⟨m2, hm2⟩ : ∃ n2, (fewI x).D.length = n2 := ⟨_, rfl⟩
  obtain ⟨m3, hm3⟩ : ∃ n3, (fewI x).L.length = n3 := ⟨_, rfl⟩
  rw [hm1, hm2, hm3] at Y5 ⊢
  clear hm1 hm2 hm3
  have c0 := (k5.cell (p := ⟨ib, 0, none⟩) hib4 (fun e => e)).trans d0
  have c1 := (k5.cell (p := ⟨ib, 1, none⟩) hib4 (fun e => e)).trans d1
  have c2 := (k5.cell (p := ⟨ib, 2, none⟩) hib4 (fun e => e)).trans d2
  have X5 := Lib.hid (X4.out.keep k5)
  have K5 := Lib.hid (K4.out.trans k5 (fun _ _ e => e))
  have hib5 : ib < w5.heap.size := Nat.lt_of_lt_of_le hib4 k5.size
  clear d0 d1 d2 hib4 k5
  go_upto_region 7 with fail
  obtain ⟨yb, hyb⟩ : ∃ yb, w5.heap.size = yb := ⟨_, rfl⟩
  obtain ⟨w6, hw6⟩ : ∃ w6, w5.alloc (.cells #[.slice ra m1 rc, .slice sa m2 sc, .slice ta m3 tc] 75) = w6 := ⟨_, rfl⟩
  have k6 : Kept (fun _ => False) w5 w6 := by rw [← hw6]; exact Kept.one_alloc _ _
  have i6 := fun i => World.cell?_alloc_new w5 #[.slice ra m1 rc, .slice sa m2 sc, .slice ta m3 tc] 75 i
  have z6 : w6.heap.size = yb + 1 := by rw [← hw6, ← hyb]; simp
  rw [hw6] at i6 ⊢
  rw [hyb] at i6 ⊢
  obtain ⟨wD, hwD⟩ : ∃ wD, w6.drew = wD := ⟨_, rfl⟩
  have k6D : Kept (fun _ => False) w6 wD := by rw [← hwD]; exact (Kept.refl _ _).drew
  have k5D := k6.trans k6D (fun _ _ e => e)
  have KD := Lib.hid (K5.out.trans k5D (fun _ _ e => e))
  have XD := Lib.hid (X5.out.keep k5D)
  have YD := Lib.hid (Y5.out.keep k5D)
  have CX := Lib.hid (show ∀ w', Kept (fun _ => False) wD w' → w'.cell? ⟨ib, 0, none⟩ = some (.slice qa n1 qc) ∧ w'.cell? ⟨ib, 1, none⟩ = some (.slice ea n2 ec) ∧ w'.cell? ⟨ib, 2, none⟩ = some (.slice ma' n3 mc') ∧ w'.cell? ⟨yb, 0, none⟩ = some (.slice ra m1 rc) ∧ w'.cell? ⟨yb, 1, none⟩ = some (.slice sa m2 sc) ∧ w'.cell? ⟨yb, 2, none⟩ = some (.slice ta m3 tc) from fun w' k => ⟨(k.cell (p := ⟨ib, 0, none⟩) (Nat.lt_of_lt_of_le hib5 k5D.size) (fun e => e)).trans ((k5D.cell (p := ⟨ib, 0, none⟩) hib5 (fun e => e)).trans c0), (k.cell (p := ⟨ib, 1, none⟩) (Nat.lt_of_lt_of_le hib5 k5D.size) (fun e => e)).trans ((k5D.cell (p := ⟨ib, 1, none⟩) hib5 (fun e => e)).trans c1), (k.cell (p := ⟨ib, 2, none⟩) (Nat.lt_of_lt_of_le hib5 k5D.size) (fun e => e)).trans ((k5D.cell (p := ⟨ib, 2, none⟩) hib5 (fun e => e)).trans c2),
    ((k6D.trans k (fun _ _ e => e)).cell (p := ⟨yb, 0, none⟩) (by rw [z6]; exact Nat.lt_succ_self yb) (fun e => e)).trans (i6 0), ((k6D.trans k (fun _ _ e => e)).cell (p := ⟨yb, 1, none⟩) (by rw [z6]; exact Nat.lt_succ_self yb) (fun e => e)).trans (i6 1), ((k6D.trans k (fun _ _ e => e)).cell (p := ⟨yb, 2, none⟩) (by rw [z6]; exact Nat.lt_succ_self yb) (fun e => e)).trans (i6 2)⟩)
  clear c0 c1 c2 hyb hw6 k6 i6 z6 k6D k5D hib5
  refine wp_region_heldQ (S := fun w' => w'.cell? ⟨ib, 0, none⟩ = some (.slice qa n1 qc) ∧ w'.cell? ⟨ib, 1, none⟩ = some (.slice ea n2 ec) ∧ w'.cell? ⟨ib, 2, none⟩ = some (.slice ma' n3 mc') ∧ w'.cell? ⟨yb, 0, none⟩ = some (.slice ra m1 rc) ∧ w'.cell? ⟨yb, 1, none⟩ = some (.slice sa m2 sc) ∧ w'.cell? ⟨yb, 2, none⟩ = some (.slice ta m3 tc)) (by kernel_rfl) ?_ (fun hHeld => ?_)
  · exact CX.out _ (by rw [hwD]; exact Kept.refl _ _)
  refine held_take 0 (oi := _) (v := ?_) rfl (by kernel_rfl) (by kernel_rfl) (by kernel_rfl) (fun _ _ _ h => h) (by rfl) (fun w hSw => ?_) (by assumption) ?_
  rotate_left
  · (try dsimp only at hSw); go_simp; try with_reducible rfl
  try simp only [Act.put, List.setIfInBounds_toArray, List.set_cons_zero, List.set_cons_succ]
  refine held_take 1 (oi := _) (v := ?_) rfl (by kernel_rfl) (by kernel_rfl) (by kernel_rfl) (fun _ _ _ h => h) (by rfl) (fun w hSw => ?_) (by assumption) ?_
  rotate_left
  · (try dsimp only at hSw); go_simp; try with_reducible rfl
  try simp only [Act.put, List.setIfInBounds_toArray, List.set_cons_zero, List.set_cons_succ]
  refine held_take 2 (oi := _) (v := ?_) rfl (by kernel_rfl) (by kernel_rfl) (by kernel_rfl) (fun _ _ _ h => h) (by rfl) (fun w hSw => ?_) (by assumption) ?_
  rotate_left
  · (try dsimp only at hSw); go_simp; try with_reducible rfl
  try simp only [Act.put, List.setIfInBounds_toArray, List.set_cons_zero, List.set_cons_succ]
  refine held_take 3 (oi := _) (v := ?_) rfl (by kernel_rfl) (by kernel_rfl) (by kernel_rfl) (fun _ _ _ h => h) (by rfl) (fun w hSw => ?_) (by assumption) ?_
  rotate_left
  · (try dsimp only at hSw); go_simp; try with_reducible rfl
  try simp only [Act.put, List.setIfInBounds_toArray, List.set_cons_zero, List.set_cons_succ]
  refine held_take 4 (oi := _) (v := ?_) rfl (by kernel_rfl) (by kernel_rfl) (by kernel_rfl) (fun _ _ _ h => h) (by rfl) (fun w hSw => ?_) (by assumption) ?_
  rotate_left
  · (try dsimp only at hSw); go_simp; try with_reducible rfl
  try simp only [Act.put, List.setIfInBounds_toArray, List.set_cons_zero, List.set_cons_succ]
  refine wpAnyH_ready (rs := [5]) (by kernel_rfl) (by simp) ?_
  refine held_cons 5 (o := _) rfl (fun KC hKC => ?_) AllReadyH.nil
  go_simp
  with_reducible refine Calls.mono (of_any XD.out (few_1000 x)) ?_
  rintro e wA ⟨v2, rfl, hi2, kA⟩
  have XA := Lib.hid hi2
  have KA := Lib.hid kA
  clear hi2 kA
  dsimp only
  refine hKC.out _ _ ?_ (fun hHeld => ?_)
  · first | exact CX.out _ KB.out | exact CX.out _ KA.out
  clear hKC KC
  try simp only [Act.put, List.setIfInBounds_toArray, List.set_cons_zero, List.set_cons_succ]
  refine wpAnyH_ready (rs := [6]) (by kernel_rfl) (by simp) ?_
  refine held_cons 6 (o := _) rfl (fun KC hKC => ?_) AllReadyH.nil
  go_simp
  with_reducible refine Calls.mono (same_any (YD.out.keep KA.out) XA.out (few_1000 x) (few_maps x)) ?_
  rintro e wB ⟨kB, r, rfl, hr⟩
  obtain rfl : r = true := hr.2 rfl
  have KB := Lib.hid (KA.out.trans kB (fun _ _ e => e))
  clear kB hr
  dsimp only
  refine hKC.out _ _ ?_ (fun hHeld => ?_)
  · first | exact CX.out _ KB.out | exact CX.out _ KA.out
  clear hKC KC
  try simp only [Act.put, List.setIfInBounds_toArray, List.set_cons_zero, List.set_cons_succ]
  refine held_take 7 (oi := _) (v := ?_) rfl (by kernel_rfl) (by kernel_rfl) (by kernel_rfl) (fun _ _ _ h => h) (by rfl) (fun w hSw => ?_) (by assumption) ?_
  rotate_left
  · (try dsimp only at hSw); go_simp; try with_reducible rfl
  try simp only [Act.put, List.setIfInBounds_toArray, List.set_cons_zero, List.set_cons_succ]
  refine held_take 8 (oi := _) (v := ?_) rfl (by kernel_rfl) (by kernel_rfl) (by kernel_rfl) (fun _ _ _ h => h) (by rfl) (fun w hSw => ?_) (by assumption) ?_
  rotate_left
  · (try dsimp only at hSw); go_simp; try with_reducible rfl
  try simp only [Act.put, List.setIfInBounds_toArray, List.set_cons_zero, List.set_cons_succ]
  refine wpAnyH_done (by kernel_rfl) ?_ _
  have KT := Lib.hid (KD.out.trans KB.out (fun _ _ e => e))
  go_wp2_with fail
  have hdk := decode_row (c := mc) (L := ML) (by rw [HML.out]; exact MB.out.kept KT.out (fun _ _ _ e => e)) (by rw [HML.out]; exact HMC.out) (by rw [HML.out]; have := HM.out; omega)
  rw [HML.out] at hdk
  refine hdk.mono ?_
  rintro e w7 ⟨k7, hor⟩
  clear hdk
  rcases hor with ⟨z, vz, hz, rfl, hzi⟩ | ⟨hz, rfl⟩
  case' inr =>
    have K7 := Lib.hid (KT.out.trans (k7.trans (Kept.one_alloc w7 (.cells #[.slice none 0 0, .slice none 0 0, .slice none 0 0] 75)) (fun _ _ e => e)) (fun _ _ e => e))
    clear k7 hz
    go_wp2_with fail
    go_ret
    exact ⟨rfl, K7.out⟩
  obtain ⟨hr2, hb2⟩ := enc_dec hz
  have HB2 := Lib.hid hb2
  have H5 := Lib.hid (show ∀ d ∈ z.D, d.data.size ≤ 5000 from fun d hd => by have := data_le hd; rw [← HB2.out, HML.out] at this; have := HM.out; omega)
  have HR2 := Lib.hid hr2
  have K7 := Lib.hid (KT.out.trans k7 (fun _ _ e => e))
  have ZI := Lib.hid hzi
  obtain ⟨ra', rc', sa', sc', ta', tc', rfl, -, -, -, -, -, -⟩ := hzi
  obtain ⟨p1, hp1⟩ : ∃ n1, z.P.length = n1 := ⟨_, rfl⟩
  obtain ⟨p2, hp2⟩ : ∃ n2, z.D.length = n2 := ⟨_, rfl⟩
  obtain ⟨p3, hp3⟩ : ∃ n3, z.L.length = n3 := ⟨_, rfl⟩
  rw [hp1, hp2, hp3] at ZI ⊢
  clear hp1 hp2 hp3 k7 hz hr2 hb2
  go_wp2_with fail
  have k8 := Kept.one_alloc w7 (.cells #[.slice ra' p1 rc', .slice sa' p2 sc', .slice ta' p3 tc'] 75)
  refine (encode_any (ZI.out.keep k8) (right_small HR2.out H5.out) H5.out).mono ?_
  rintro e w9 ⟨k9, ⟨-, sv, rfl, hown, -⟩ | ⟨hf, -⟩⟩
  case' inr =>
    rw [HR2.out] at hf
    cases hf
  have K9 := Lib.hid (K7.out.trans (k8.trans k9 (fun _ _ e => e)) (fun _ _ e => e))
  obtain ⟨xa, xc, rfl, -, hby, -⟩ := own_u8 hown
  rw [← HB2.out] at hby ⊢
  have hcv := hby.conv (c := xc)
  have hcb := (MB.out.kept K9.out (fun _ _ _ e => e)).conv (c := mc)
  have hs := bytes_self (baL ML)
  rw [HML.out] at hcv ⊢
  clear hby hown k8 k9
  go_wp2_with fail
  go_ret
  exact ⟨rfl, K9.out⟩
end Go.Proofs.YtdkcnigghcbnpaaGreat
