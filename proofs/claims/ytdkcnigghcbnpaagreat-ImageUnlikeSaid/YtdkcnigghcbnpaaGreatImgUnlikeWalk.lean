/- law18.ImageUnlike answers true. -/
import Derived.Test.YtdkcnigghcbnpaaGreatImgF
namespace Go.Proofs.YtdkcnigghcbnpaaGreat
set_option linter.unusedVariables false
set_option linter.unusedSimpArgs false
open Go.RowKit Go.MapKept

theorem slices3 {w : World} {ib : Nat} {p0 p1 p2 : Value} {t : TypeId} (hb : w.heap[ib]? = some (.cells #[p0, p1, p2] t (0, 0))) (h0 : ∃ a n m, p0 = .slice a n m) (h1 : ∃ a n m, p1 = .slice a n m) (h2 : ∃ a n m, p2 = .slice a n m) : ∀ i c, w.cell? ⟨ib, i, none⟩ = some c → ∃ a n m, c = .slice a n m := fun i c hc => by
  have hc : (#[p0, p1, p2] : Array Value)[i]? = some c := by
    rw [World.cell?] at hc
    simpa [hb] using hc
  match i, hc with
  | 0, hc => cases hc; exact h0
  | 1, hc => cases hc; exact h1
  | 2, hc => cases hc; exact h2
  | i + 3, hc => simp at hc
theorem cells3 {w : World} {ib : Nat} {p0 p1 p2 : Value} {t : TypeId} (hb : w.heap[ib]? = some (.cells #[p0, p1, p2] t (0, 0))) : w.cell? ⟨ib, 0, none⟩ = some p0 ∧ w.cell? ⟨ib, 1, none⟩ = some p1 ∧ w.cell? ⟨ib, 2, none⟩ = some p2 := by
  refine ⟨?_, ?_, ?_⟩ <;> simp [World.cell?, hb]
/-- The image's own cells are written over with the few, beside another one's. -/
theorem few_puts {w : World} {ib : Nat} {Z : Nat → Prop} {p0 p1 p2 v0 v1 v2 : Value} {t : TypeId} {y : GI} (hb : w.heap[ib]? = some (.cells #[p0, p1, p2] t (0, 0))) (h0 : ∃ a n m, p0 = .slice a n m) (h1 : ∃ a n m, p1 = .slice a n m) (h2 : ∃ a n m, p2 = .slice a n m)
    (h : ImgAt w Z (.agg #[v0, v1, v2]) y) : ∃ w', ((w.setCell ⟨ib, 0, none⟩ v0).setCell ⟨ib, 1, none⟩ v1).setCell ⟨ib, 2, none⟩ v2 = w' ∧ ImgAt w' (fun b => Z b ∧ b ≠ ib) (.agg #[v0, v1, v2]) y ∧ Kept (fun b => b = ib) w w' ∧ w'.heap[ib]? = some (.cells #[v0, v1, v2] t (0, 0)) := by
  have k : Kept (fun b => b = ib) w _ := ((Kept.one_set w ⟨ib, 0, none⟩ v0).trans (Kept.one_set _ ⟨ib, 1, none⟩ v1) (fun _ _ e => e)).trans (Kept.one_set _ ⟨ib, 2, none⟩ v2) (fun _ _ e => e)
  refine ⟨_, rfl, (h.off (ib := ib) (slices3 hb h0 h1 h2)).kept k (fun b _ hb e => hb.2 e), k, ?_⟩
  simp [World.setCell, Array.getElem?_modify, hb]
set_option maxRecDepth 100000 in
set_option maxHeartbeats 4000000 in
theorem imageUnlike_any (v : Value) (x : GI) (u : Value) (y : GI) (W : World) (hx : ImgAt W (fun b => b < W.heap.size) v x) (hl : x.P.length ≤ 9223372036854775807 ∧ x.D.length ≤ 9223372036854775807 ∧ x.L.length ≤ 9223372036854775807) (hy : ImgAt W (fun b => b < W.heap.size) u y) (hm : y.P.length ≤ 9223372036854775807 ∧ y.D.length ≤ 9223372036854775807 ∧ y.L.length ≤ 9223372036854775807) :
    Calls Tryz.prog 10 #[v, u] W fun e w' => e = .returned (.bool true) ∧ Kept (fun _ => False) W w' := by
  have HX := Lib.hid hx
  have HY := Lib.hid hy
  obtain ⟨pa, pc, da, dc, la, lc, rfl, -, -, -, -, -, -⟩ := hx
  obtain ⟨ra, rc, sa, sc, ta, tc, rfl, -, -, -, -, -, -⟩ := hy
  obtain ⟨n1, hn1⟩ : ∃ n1, x.P.length = n1 := ⟨_, rfl⟩
  obtain ⟨n2, hn2⟩ : ∃ n2, x.D.length = n2 := ⟨_, rfl⟩
  obtain ⟨n3, hn3⟩ : ∃ n3, x.L.length = n3 := ⟨_, rfl⟩
  obtain ⟨m1, hm1⟩ : ∃ n1, y.P.length = n1 := ⟨_, rfl⟩
  obtain ⟨m2, hm2⟩ : ∃ n2, y.D.length = n2 := ⟨_, rfl⟩
  obtain ⟨m3, hm3⟩ : ∃ n3, y.L.length = n3 := ⟨_, rfl⟩
  rw [hn1, hn2, hn3] at HX ⊢
  rw [hm1, hm2, hm3] at HY ⊢
  have HLX := Lib.hid hl
  have HLY := Lib.hid hm
  clear hl hm hn1 hn2 hn3 hm1 hm2 hm3
  obtain ⟨ib, hib⟩ : ∃ ib, W.heap.size = ib := ⟨_, rfl⟩
  go_enter Tryz.func10, Tryz.ntmps10
  go_wp2_with fail
  obtain ⟨w0, hw0⟩ : ∃ w0, ((W.alloc (.cells #[.slice pa n1 pc, .slice da n2 dc, .slice la n3 lc] 75)).alloc (.cells #[.slice ra m1 rc, .slice sa m2 sc, .slice ta m3 tc] 75)) = w0 := ⟨_, rfl⟩
  have kq := Kept.one_alloc W (.cells #[.slice pa n1 pc, .slice da n2 dc, .slice la n3 lc] 75)
  have kr := Kept.one_alloc (W.alloc (.cells #[.slice pa n1 pc, .slice da n2 dc, .slice la n3 lc] 75)) (.cells #[.slice ra m1 rc, .slice sa m2 sc, .slice ta m3 tc] 75)
  have b1 := heap_alloc_new W (.cells #[.slice pa n1 pc, .slice da n2 dc, .slice la n3 lc] 75)
  have b2 := heap_alloc_new (W.alloc (.cells #[.slice pa n1 pc, .slice da n2 dc, .slice la n3 lc] 75)) (.cells #[.slice ra m1 rc, .slice sa m2 sc, .slice ta m3 tc] 75)
  have z1 : (W.alloc (.cells #[.slice pa n1 pc, .slice da n2 dc, .slice la n3 lc] 75)).heap.size = ib + 1 := by rw [← hib]; simp
  have z2 : ((W.alloc (.cells #[.slice pa n1 pc, .slice da n2 dc, .slice la n3 lc] 75)).alloc (.cells #[.slice ra m1 rc, .slice sa m2 sc, .slice ta m3 tc] 75)).heap.size = ib + 2 := by rw [← hib]; simp
  rw [hib] at b1
  have b3 := (kr.block ib (by rw [z1]; exact Nat.lt_succ_self ib) (fun e => e)).trans b1
  rw [z1] at b2
  rw [hw0] at b2 b3 kr z2 ⊢
  have K0 := kq.trans kr (fun _ _ e => e)
  refine (shown18_any _).mono ?_
  rintro e w1 ⟨rfl, k1⟩
  have hb1 := (k1.block ib (by rw [z2]; omega) (fun e => e)).trans b3
  have hb2 := (k1.block (ib + 1) (by rw [z2]; omega) (fun e => e)).trans b2
  have hs1 : ib + 2 ≤ w1.heap.size := by have := k1.size; omega
  have K1 := Lib.hid (K0.trans k1 (fun _ _ e => e))
  have HIB := Lib.hid (show W.heap.size ≤ ib from Nat.le_of_eq hib)
  obtain ⟨c0, c1, c2⟩ := cells3 hb1
  clear kq kr b1 b2 b3 z1 z2 hw0 K0 k1 hib
  have hil : ib < w1.heap.size := by omega
  go_wp2_with fail
  refine (few_any (HX.out.keep K1.out) HLX.out).mono ?_
  rintro e w2 ⟨v', rfl, hx2, k2⟩
  have gb1 := (k2.block ib (by omega) (fun e => e)).trans hb1
  have gb2 := (k2.block (ib + 1) (by omega) (fun e => e)).trans hb2
  have BK := Lib.hid (And.intro gb1 gb2)
  have hs2 : ib + 2 ≤ w2.heap.size := by have := k2.size; omega
  have X2 := Lib.hid (hx2.off (slices3 gb2 ⟨_, _, _, rfl⟩ ⟨_, _, _, rfl⟩ ⟨_, _, _, rfl⟩))
  have Kf := Lib.hid (K1.out.trans k2 (fun _ _ e => e))
  have f0 := (show RowAt w2 ib 3 from ⟨_, _, gb1, rfl⟩).frozen 0
  have f1 := (show RowAt w2 ib 3 from ⟨_, _, gb1, rfl⟩).frozen 1
  have f2 := (show RowAt w2 ib 3 from ⟨_, _, gb1, rfl⟩).frozen 2
  clear c0 c1 c2
  obtain ⟨c0, c1, c2⟩ := cells3 gb1
  clear k2 hb1 hb2 gb1 gb2 hil hs1
  obtain ⟨qa, qc, ea, ec, ga, gc, rfl, -, -, -, -, -, -⟩ := hx2
  obtain ⟨o1, ho1⟩ : ∃ n1, (fewI x).P.length = n1 := ⟨_, rfl⟩
  obtain ⟨o2, ho2⟩ : ∃ n2, (fewI x).D.length = n2 := ⟨_, rfl⟩
  obtain ⟨o3, ho3⟩ : ∃ n3, (fewI x).L.length = n3 := ⟨_, rfl⟩
  rw [ho1, ho2, ho3] at X2 ⊢
  have HO := Lib.hid (And.intro ho1 (And.intro ho2 ho3))
  clear ho1 ho2 ho3
  have hil : ib < w2.heap.size := by omega
  go_upto_region 3 with fail
  obtain ⟨w3, hw3, hx3, k3, hb3⟩ := few_puts BK.out.1 ⟨_, _, _, rfl⟩ ⟨_, _, _, rfl⟩ ⟨_, _, _, rfl⟩ X2.out
  rw [hw3]
  have X3 := Lib.hid hx3
  have K3 := Lib.hid (show Kept (fun _ => False) W w3 from Kf.out.trans k3 (fun b hb e => by have := HIB.out; omega))
  have hb4 := (k3.block (ib + 1) (by omega) (fun e => by have e : ib + 1 = ib := e; omega)).trans BK.out.2
  have hs3 : ib + 2 ≤ w3.heap.size := by have := k3.size; omega
  clear hx3 k3 c0 c1 c2 f0 f1 f2 hil hs2 hw3 BK
  obtain ⟨c0, c1, c2⟩ := cells3 hb4
  have hil : ib + 1 < w3.heap.size := by omega
  have HB3 := Lib.hid (And.intro hb3 hb4)
  clear hb3 hb4
  go_wp2_with fail
  refine (few_any (HY.out.keep K3.out) HLY.out).mono ?_
  rintro e w4 ⟨v', rfl, hy4, k4⟩
  have gb1 := (k4.block ib (by omega) (fun e => e)).trans HB3.out.1
  have gb2 := (k4.block (ib + 1) (by omega) (fun e => e)).trans HB3.out.2
  have BK := Lib.hid (And.intro gb1 gb2)
  have hs4 : ib + 2 ≤ w4.heap.size := by have := k4.size; omega
  have X4 := Lib.hid (X3.out.keep k4)
  have Y4 := Lib.hid (hy4.off (slices3 gb1 ⟨_, _, _, rfl⟩ ⟨_, _, _, rfl⟩ ⟨_, _, _, rfl⟩))
  have Kf2 := Lib.hid (K3.out.trans k4 (fun _ _ e => e))
  have f0 := (show RowAt w4 (ib + 1) 3 from ⟨_, _, gb2, rfl⟩).frozen 0
  have f1 := (show RowAt w4 (ib + 1) 3 from ⟨_, _, gb2, rfl⟩).frozen 1
  have f2 := (show RowAt w4 (ib + 1) 3 from ⟨_, _, gb2, rfl⟩).frozen 2
  clear c0 c1 c2
  obtain ⟨c0, c1, c2⟩ := cells3 gb2
  clear k4 gb1 gb2 hil hs3 HB3
  obtain ⟨ua, uc, va, vc, wa, wc, rfl, -, -, -, -, -, -⟩ := hy4
  obtain ⟨p1, hp1⟩ : ∃ n1, (fewI y).P.length = n1 := ⟨_, rfl⟩
  obtain ⟨p2, hp2⟩ : ∃ n2, (fewI y).D.length = n2 := ⟨_, rfl⟩
  obtain ⟨p3, hp3⟩ : ∃ n3, (fewI y).L.length = n3 := ⟨_, rfl⟩
  rw [hp1, hp2, hp3] at Y4 ⊢
  have HP := Lib.hid (And.intro hp1 (And.intro hp2 hp3))
  clear hp1 hp2 hp3
  have hil : ib + 1 < w4.heap.size := by omega
  go_upto_region 4 with fail
  obtain ⟨w5, hw5, hy5, k5, hb5⟩ := few_puts BK.out.2 ⟨_, _, _, rfl⟩ ⟨_, _, _, rfl⟩ ⟨_, _, _, rfl⟩ Y4.out
  rw [hw5]
  have Y5 := Lib.hid (hy5.mono (Z' := fun _ => True) (fun _ _ _ => trivial))
  have X5 := Lib.hid ((X4.out.kept k5 (fun b _ hb e => hb.1.2 e)).mono (Z' := fun _ => True) (fun _ _ _ => trivial))
  have K5 := Lib.hid (show Kept (fun _ => False) W w5 from Kf2.out.trans k5 (fun b hb e => by have := HIB.out; have e : b = ib + 1 := e; omega))
  have hb6 := (k5.block ib (by omega) (fun e => by have e : ib = ib + 1 := e; omega)).trans BK.out.1
  have hs5 : ib + 2 ≤ w5.heap.size := by have := k5.size; omega
  clear hy5 k5 c0 c1 c2 f0 f1 f2 hil hs4 hw5 BK
  obtain ⟨jb, hjb⟩ : ∃ jb, ib + 1 = jb := ⟨_, rfl⟩
  rw [hjb] at hb5 ⊢
  obtain ⟨c0, c1, c2⟩ := cells3 hb6
  obtain ⟨c3, c4, c5⟩ := cells3 hb5
  have hil : ib < w5.heap.size := by omega
  have hjl : jb < w5.heap.size := by omega
  have CX := Lib.hid (show ∀ w', Kept (fun _ => False) w5 w' → w'.cell? ⟨ib, 0, none⟩ = some (.slice qa o1 qc) ∧ w'.cell? ⟨ib, 1, none⟩ = some (.slice ea o2 ec) ∧ w'.cell? ⟨ib, 2, none⟩ = some (.slice ga o3 gc) ∧ w'.cell? ⟨jb, 0, none⟩ = some (.slice ua p1 uc) ∧ w'.cell? ⟨jb, 1, none⟩ = some (.slice va p2 vc) ∧ w'.cell? ⟨jb, 2, none⟩ = some (.slice wa p3 wc) from fun w' k => ⟨(k.cell (p := ⟨ib, 0, none⟩) hil (fun e => e)).trans c0, (k.cell (p := ⟨ib, 1, none⟩) hil (fun e => e)).trans c1, (k.cell (p := ⟨ib, 2, none⟩) hil (fun e => e)).trans c2, (k.cell (p := ⟨jb, 0, none⟩) hjl (fun e => e)).trans c3, (k.cell (p := ⟨jb, 1, none⟩) hjl (fun e => e)).trans c4, (k.cell (p := ⟨jb, 2, none⟩) hjl (fun e => e)).trans c5⟩)
  clear hb5 hb6 hs5 hjb
  go_wp2_with fail
  refine (encode_any X5.out (few_small x) (few_d5 x)).mono ?_
  rintro e w6 ⟨k6, hor⟩
  have Y6 := Lib.hid (Y5.out.keep k6)
  have X6 := Lib.hid (X5.out.keep k6)
  have K6 := Lib.hid k6
  clear c0 c1 c2 c3 c4 c5 hil hjl k6
  obtain ⟨c0, c1, c2, c3, c4, c5⟩ := CX.out w6 K6.out
  rcases hor with ⟨hr1, sv1, rfl, hown, -⟩ | ⟨-, rfl⟩
  case' inr =>
    go_wp2_with fail
    refine (encode_any Y6.out (few_small y) (few_d5 y)).mono ?_
    rintro e w7 ⟨k7, ⟨-, sv, rfl, -, -⟩ | ⟨-, rfl⟩⟩
    · have K7 := Lib.hid ((K5.out.trans K6.out (fun _ _ e => e)).trans k7 (fun _ _ e => e))
      clear k7
      go_wp2_with fail
      go_ret
      exact ⟨rfl, K7.out⟩
    · have K7 := Lib.hid ((K5.out.trans K6.out (fun _ _ e => e)).trans k7 (fun _ _ e => e))
      clear k7
      go_wp2_with fail
      go_ret
      exact ⟨rfl, K7.out⟩
  obtain ⟨ba, bc, rfl, -, hby, -⟩ := own_u8 hown
  have B6 := Lib.hid hby
  have HR1 := Lib.hid hr1
  obtain ⟨LX, hLX⟩ : ∃ L, encI (fewI x) = L := ⟨_, rfl⟩
  rw [hLX] at B6 ⊢
  obtain ⟨nx, hnx⟩ : ∃ n, LX.length = n := ⟨_, rfl⟩
  rw [hnx] at B6 ⊢
  have HL1 := Lib.hid hLX
  clear hown hby hLX hnx hr1
  go_wp2_with fail
  refine (encode_any Y6.out (few_small y) (few_d5 y)).mono ?_
  rintro e w7 ⟨k7, ⟨hr2, sv2, rfl, hown, -⟩ | ⟨-, rfl⟩⟩
  case' inr =>
    have K7 := Lib.hid ((K5.out.trans K6.out (fun _ _ e => e)).trans k7 (fun _ _ e => e))
    clear k7
    go_wp2_with fail
    go_ret
    exact ⟨rfl, K7.out⟩
  obtain ⟨fa, fc, rfl, -, hby, -⟩ := own_u8 hown
  have B7 := Lib.hid hby
  obtain ⟨LY, hLY⟩ : ∃ L, encI (fewI y) = L := ⟨_, rfl⟩
  rw [hLY] at B7 ⊢
  obtain ⟨ny, hny⟩ : ∃ n, LY.length = n := ⟨_, rfl⟩
  rw [hny] at B7 ⊢
  obtain ⟨q, hq⟩ : ∃ q : Bool, (q = true ↔ fewI x = fewI y) := by
    by_cases h : fewI x = fewI y
    · exact ⟨true, by simp [h]⟩
    · exact ⟨false, by simp [h]⟩
  have HQ := Lib.hid hq
  have hs : ((baL LX).toList == (baL LY).toList) = q := by
    rw [← HL1.out, ← hLY]
    by_cases h : fewI x = fewI y
    · rw [HQ.out.2 h, h, bytes_self]
    · rw [bytes_ne (fun e => h (enc_inj HR1.out hr2 (baL_inj e)))]
      cases q with
      | false => rfl
      | true => exact absurd (HQ.out.1 rfl) h
  have K7 := Lib.hid k7
  clear hown hby hLY hny hr2 k7 hq c0 c1 c2 c3 c4 c5
  go_upto_region 8 with fail
  obtain ⟨wD, hwD⟩ : ∃ wD, w7.drew = wD := ⟨_, rfl⟩
  have k7D : Kept (fun _ => False) w7 wD := by rw [← hwD]; exact (Kept.refl _ _).drew
  have k6D := K6.out.trans (K7.out.trans k7D (fun _ _ e => e)) (fun _ _ e => e)
  have XD := Lib.hid (X5.out.keep k6D)
  have YD := Lib.hid (Y5.out.keep k6D)
  have KD := Lib.hid (K5.out.trans k6D (fun _ _ e => e))
  have CD := Lib.hid (show ∀ w', Kept (fun _ => False) wD w' → w'.cell? ⟨ib, 0, none⟩ = some (.slice qa o1 qc) ∧ w'.cell? ⟨ib, 1, none⟩ = some (.slice ea o2 ec) ∧ w'.cell? ⟨ib, 2, none⟩ = some (.slice ga o3 gc) ∧ w'.cell? ⟨jb, 0, none⟩ = some (.slice ua p1 uc) ∧ w'.cell? ⟨jb, 1, none⟩ = some (.slice va p2 vc) ∧ w'.cell? ⟨jb, 2, none⟩ = some (.slice wa p3 wc) ∧ (convert 28 9 (.slice ba nx bc)).run Tryz.prog w' = .ok (.string (baL LX)) w' ∧ (convert 28 9 (.slice fa ny fc)).run Tryz.prog w' = .ok (.string (baL LY)) w' from fun w' k => by
    obtain ⟨c0, c1, c2, c3, c4, c5⟩ := CX.out w' (k6D.trans k (fun _ _ e => e))
    exact ⟨c0, c1, c2, c3, c4, c5, (B6.out.kept ((K7.out.trans k7D (fun _ _ e => e)).trans k (fun _ _ e => e)) (fun _ _ _ e => e)).conv, (B7.out.kept (k7D.trans k (fun _ _ e => e)) (fun _ _ _ e => e)).conv⟩)
  clear k7D k6D
  refine wp_region_heldQ (S := fun w' => w'.cell? ⟨ib, 0, none⟩ = some (.slice qa o1 qc) ∧ w'.cell? ⟨ib, 1, none⟩ = some (.slice ea o2 ec) ∧ w'.cell? ⟨ib, 2, none⟩ = some (.slice ga o3 gc) ∧ w'.cell? ⟨jb, 0, none⟩ = some (.slice ua p1 uc) ∧ w'.cell? ⟨jb, 1, none⟩ = some (.slice va p2 vc) ∧ w'.cell? ⟨jb, 2, none⟩ = some (.slice wa p3 wc) ∧ (convert 28 9 (.slice ba nx bc)).run Tryz.prog w' = .ok (.string (baL LX)) w' ∧ (convert 28 9 (.slice fa ny fc)).run Tryz.prog w' = .ok (.string (baL LY)) w') (by kernel_rfl) ?_ (fun hHeld => ?_)
  · exact CD.out _ (by rw [hwD]; exact Kept.refl _ _)
  refine held_take 0 (oi := _) (v := ?_) rfl (by kernel_rfl) (by kernel_rfl) (by kernel_rfl) (fun _ _ _ h => h) (by rfl) (fun w hSw => ?_) (by assumption) ?_
  rotate_left
  · (try dsimp only at hSw); go_simp; try with_reducible rfl
  try simp only [Act.put, List.setIfInBounds_toArray, List.set_cons_zero, List.set_cons_succ]
  refine held_take 1 (oi := _) (v := ?_) rfl (by kernel_rfl) (by kernel_rfl) (by kernel_rfl) (fun _ _ _ h => h) (by rfl) (fun w hSw => ?_) (by assumption) ?_
  rotate_left
  · (try dsimp only at hSw); go_simp; try with_reducible rfl
  try simp only [Act.put, List.setIfInBounds_toArray, List.set_cons_zero, List.set_cons_succ]
  refine held_take 2 (oi := _) (v := ?_) rfl (by kernel_rfl) (by kernel_rfl) (by kernel_rfl) (fun _ _ _ h => h) (by rfl) (fun w hSw => ?_) (by assumption) ?_
  rotate_left
  · (try dsimp only at hSw); go_simp; try with_reducible rfl
  try simp only [Act.put, List.setIfInBounds_toArray, List.set_cons_zero, List.set_cons_succ]
  refine held_take 3 (oi := _) (v := ?_) rfl (by kernel_rfl) (by kernel_rfl) (by kernel_rfl) (fun _ _ _ h => h) (by rfl) (fun w hSw => ?_) (by assumption) ?_
  rotate_left
  · (try dsimp only at hSw); go_simp; try with_reducible rfl
  try simp only [Act.put, List.setIfInBounds_toArray, List.set_cons_zero, List.set_cons_succ]
  refine held_take 4 (oi := _) (v := ?_) rfl (by kernel_rfl) (by kernel_rfl) (by kernel_rfl) (fun _ _ _ h => h) (by rfl) (fun w hSw => ?_) (by assumption) ?_
  rotate_left
  · (try dsimp only at hSw); go_simp; try with_reducible rfl
  try simp only [Act.put, List.setIfInBounds_toArray, List.set_cons_zero, List.set_cons_succ]
  refine held_take 5 (oi := _) (v := ?_) rfl (by kernel_rfl) (by kernel_rfl) (by kernel_rfl) (fun _ _ _ h => h) (by rfl) (fun w hSw => ?_) (by assumption) ?_
  rotate_left
  · (try dsimp only at hSw); go_simp; try with_reducible rfl
  try simp only [Act.put, List.setIfInBounds_toArray, List.set_cons_zero, List.set_cons_succ]
  refine held_take 6 (oi := _) (v := ?_) rfl (by kernel_rfl) (by kernel_rfl) (by kernel_rfl) (fun _ _ _ h => h) (by rfl) (fun w hSw => ?_) (by assumption) ?_
  rotate_left
  · (try dsimp only at hSw); go_simp; try with_reducible rfl
  try simp only [Act.put, List.setIfInBounds_toArray, List.set_cons_zero, List.set_cons_succ]
  refine held_take 7 (oi := _) (v := ?_) rfl (by kernel_rfl) (by kernel_rfl) (by kernel_rfl) (fun _ _ _ h => h) (by rfl) (fun w hSw => ?_) (by assumption) ?_
  rotate_left
  · (try dsimp only at hSw); go_simp; try with_reducible rfl
  try simp only [Act.put, List.setIfInBounds_toArray, List.set_cons_zero, List.set_cons_succ]
  refine held_take 8 (oi := _) (v := ?_) rfl (by kernel_rfl) (by kernel_rfl) (by kernel_rfl) (fun _ _ _ h => h) (by rfl) (fun w hSw => ?_) (by assumption) ?_
  rotate_left
  · (try dsimp only at hSw); go_simp; try with_reducible rfl
  try simp only [Act.put, List.setIfInBounds_toArray, List.set_cons_zero, List.set_cons_succ]
  refine wpAnyH_ready (rs := [9]) (by kernel_rfl) (by simp) ?_
  refine held_cons 9 (o := _) rfl (fun KC hKC => ?_) AllReadyH.nil
  go_simp
  with_reducible refine Calls.mono (of_any YD.out (few_1000 y)) ?_
  rintro e wA ⟨v2, rfl, hi2, kA⟩
  have YA := Lib.hid hi2
  have KA := Lib.hid kA
  clear hi2 kA
  dsimp only
  refine hKC.out _ _ ?_ (fun hHeld => ?_)
  · first | exact CD.out _ KB.out | exact CD.out _ KA.out
  clear hKC KC
  try simp only [Act.put, List.setIfInBounds_toArray, List.set_cons_zero, List.set_cons_succ]
  refine wpAnyH_ready (rs := [10]) (by kernel_rfl) (by simp) ?_
  refine held_cons 10 (o := _) rfl (fun KC hKC => ?_) AllReadyH.nil
  go_simp
  with_reducible refine Calls.mono (same_any (XD.out.keep KA.out) YA.out (few_1000 x) (few_maps x)) ?_
  rintro e wB ⟨kB, r, rfl, hr⟩
  obtain rfl : r = q := Bool.eq_iff_iff.2 (hr.trans HQ.out.symm)
  have KB := Lib.hid (KA.out.trans kB (fun _ _ e => e))
  clear kB hr
  dsimp only
  refine hKC.out _ _ ?_ (fun hHeld => ?_)
  · first | exact CD.out _ KB.out | exact CD.out _ KA.out
  clear hKC KC
  try simp only [Act.put, List.setIfInBounds_toArray, List.set_cons_zero, List.set_cons_succ]
  refine held_take 11 (oi := _) (v := ?_) rfl (by kernel_rfl) (by kernel_rfl) (by kernel_rfl) (fun _ _ _ h => h) (by rfl) (fun w hSw => ?_) (by assumption) ?_
  rotate_left
  · (try dsimp only at hSw); go_simp; try with_reducible rfl
  try simp only [Act.put, List.setIfInBounds_toArray, List.set_cons_zero, List.set_cons_succ]
  refine held_take 12 (oi := _) (v := ?_) rfl (by kernel_rfl) (by kernel_rfl) (by kernel_rfl) (fun _ _ _ h => h) (by rfl) (fun w hSw => ?_) (by assumption) ?_
  rotate_left
  · (try dsimp only at hSw); go_simp; try with_reducible rfl
  try simp only [Act.put, List.setIfInBounds_toArray, List.set_cons_zero, List.set_cons_succ]
  refine held_take 13 (oi := _) (v := ?_) rfl (by kernel_rfl) (by kernel_rfl) (by kernel_rfl) (fun _ _ _ h => h) (by rfl) (fun w hSw => ?_) (by assumption) ?_
  rotate_left
  · (try dsimp only at hSw); go_simp; try with_reducible rfl
  try simp only [Act.put, List.setIfInBounds_toArray, List.set_cons_zero, List.set_cons_succ]
  refine wpAnyH_done (by kernel_rfl) ?_ _
  go_wp2_with fail
  go_ret
  exact ⟨by simp, KD.out.trans KB.out (fun _ _ e => e)⟩
end Go.Proofs.YtdkcnigghcbnpaaGreat
