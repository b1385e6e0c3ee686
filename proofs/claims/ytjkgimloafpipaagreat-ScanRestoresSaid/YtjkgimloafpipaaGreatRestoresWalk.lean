/- ScanRestores, walked. -/
import Derived.Test.YtjkgimloafpipaaGreatShown11
import Derived.Test.YtjkgimloafpipaaGreatMade11
import Derived.Test.YtjkgimloafpipaaGreatRResB
import Derived.Test.YtjkgimloafpipaaGreatFreeB
import Derived.Test.YtjkgimloafpipaaGreatRefScan
import Derived.Test.YtjkgimloafpipaaGreatHeld
import Derived.Sort.CutIn
namespace Go.Proofs.YtjkgimloafpipaaGreat
set_option linter.unusedVariables false
set_option linter.unusedSimpArgs false
open Go.RowKit Go.MapKept Go.Deep

set_option maxRecDepth 100000 in
set_option maxHeartbeats 4000000 in
theorem scanRestores_any (kind key value most : Int) (a : Option Addr) (n c : Nat) (ss : Nat → Pr) (pos turn : Int) (a7 : Option Addr) (n7 c7 : Nat) (s7 : Nat → Int) (xm : TM) (W : World) (hs : Puts W a n ss) (hn : n ≤ 9223372036854775807) (hturn : (Lit.int .u8 turn).wf = true) (h7 : Octets W a7 n7 s7) (p7 : n7 ≤ c7) (q7 : c7 ≤ 9223372036854775807) (hx : xm.nm.size ≤ 9223372036854775807) :
    Calls Tryz.prog 3 #[.int .i64 kind, .int .i64 key, .int .i64 value, .int .i64 most, .slice a n c, .int .i64 pos, .int .u8 turn, .slice a7 n7 c7, xm.v] W fun e w' => e = .returned (.bool true) ∧ Kept (fun _ => False) W w' := by
  obtain ⟨nm', kd', ks', vs', mx'⟩ := xm
  obtain ⟨xm, hxm⟩ : ∃ xm : TM, xm = ⟨nm', kd', ks', vs', mx'⟩ := ⟨_, rfl⟩
  have hv : TM.v ⟨nm', kd', ks', vs', mx'⟩ = .agg #[.string nm', .int .i64 kd', .int .i64 ks', .int .i64 vs', .int .i64 mx'] := rfl
  rw [hv]
  simp only at hx
  have hb7 : BytesAt W a7 n7 (bytesOf s7 n7) := bytes_of_octets h7
  obtain ⟨k7, hk7⟩ : ∃ k7, bytesOf s7 n7 = k7 := ⟨_, rfl⟩
  rw [hk7] at hb7
  have htb := bounds_u8 hturn
  obtain ⟨W1, hW1⟩ : ∃ W1, W.alloc (.cells #[.string nm', .int .i64 kd', .int .i64 ks', .int .i64 vs', .int .i64 mx'] 25) = W1 := ⟨_, rfl⟩
  obtain ⟨q, hq⟩ : ∃ q, W.heap.size = q := ⟨_, rfl⟩
  have XB := Lib.hid (show MBox W1 q xm ∧ Kept (fun _ => False) W W1 ∧ W.heap.size ≤ q from ⟨by rw [← hW1, ← hq, hxm]; exact MBox.new W ⟨nm', kd', ks', vs', mx'⟩ 25, by rw [← hW1]; exact Kept.one_alloc _ _, by omega⟩)
  have HX := Lib.hid (And.intro hxm hx)
  have HS := Lib.hid (And.intro hs (And.intro hb7 htb))
  have HW1 := Lib.hid (And.intro hW1 hq)
  clear hs h7 hb7 hk7 htb hturn hv hxm hx hW1 hq
  refine callsIn_WR (ro := none) (n := 0).1 (callsIn_of_wp_marks Tryz.func3 rfl trivial ?_ rfl)
  simp only [Tryz.ntmps3, List.size_toArray, List.length_cons, List.length_nil, Nat.reduceAdd, Nat.reduceSub, Array.replicate_succ, Array.replicate_zero, List.push_toArray, List.append_toArray, List.nil_append, List.cons_append]
  gi_wp2_with fail
  try rw [HW1.out.2]
  try rw [HW1.out.1]
  refine callsIn_WR.2 ((shown_any W1).mono ?_)
  rintro e w1 ⟨rfl, k1⟩
  have K1 := Lib.hid k1
  have MD := Lib.hid (made11_any kind key value most a n c ss w1 (fun i hi => by
    obtain ⟨b, o, e, hb, hp⟩ := HS.out.1 i hi
    have kk := XB.out.2.1.trans k1 (fun _ _ e => e)
    exact ⟨b, o, e, Nat.lt_of_lt_of_le hb kk.size, hp.kept hb kk (fun e => e)⟩) hn)
  clear k1
  gi_wp2_with fail
  refine callsIn_WR.2 (MD.out.mono ?_)
  rintro e w2 ⟨bt, br, P, rfl, hd⟩
  have hmr := (small_right kind key value most)
  have hmn : (smallM kind key value most).nm.size ≤ 9223372036854775807 := by show (⟨#[109]⟩ : ByteArray).size ≤ 9223372036854775807; decide
  generalize smallM kind key value most = m at hd hmr hmn
  obtain ⟨Ft, Fr, hses, hrses, -, hfl⟩ := hd.ex
  obtain ⟨S0, hS0⟩ : ∃ S0, snapB (ordP m P) = S0 := ⟨_, rfl⟩
  have hsmall := snap_small4 hses.sizes hmr.1 hses.len
  rw [hS0] at hsmall
  have SE := Lib.hid (And.intro hses hrses)
  have KW2 := Lib.hid (show Kept (fun _ => False) W w2 ∧ MBox w2 q xm from ⟨(XB.out.2.1.trans K1.out (fun _ _ e => e)).trans hd.back (fun _ _ e => e), (XB.out.1.kept K1.out (fun e => e)).kept hd.back (fun e => e)⟩)
  have HMR := Lib.hid hmr
  have HS0 := Lib.hid hS0
  have B7 := Lib.hid (HS.out.2.1.kept KW2.out.1 (fun _ _ _ e => e))
  have RSN := Lib.hid (show ∀ W', Kept (fun _ => False) w2 W' → Calls Tryz.prog 14 #[.pointer (some ⟨br, 0, none⟩)] W' fun e w' => e = .returned (.string S0) ∧ Kept (fun _ => False) w2 w' from by
    intro W' kk
    rw [← HS0.out]
    refine (rses_snap (SE.out.2.keep kk)).mono ?_
    rintro e w' ⟨rfl, h2⟩
    exact ⟨rfl, kk.trans h2 (fun _ _ e => e)⟩)
  clear MD hd hses hrses hfl hmr hS0
  obtain ⟨M7, hM7⟩ : ∃ M7, min n7 40 = M7 := ⟨_, rfl⟩
  have hm7 : min (n7 : Int) (40 : Int) = (M7 : Int) := by omega
  have hm8 : M7 ≤ 40 ∧ M7 ≤ n7 := by omega
  have hm9 : (M7 : Int) ≤ (c7 : Int) := by omega
  have hm0 : (0 : Int) ≤ (M7 : Int) := by omega
  have B7M := Lib.hid (B7.out.pre hm8.2)
  have hSM : S0.size + M7 ≤ 450000 := by omega
  clear hM7
  gi_wp2_with fail
  refine wpW_region_held (S := fun _ => True) (by kernel_rfl) (by kernel_rfl) (by rintro ⟨_, _, h⟩; first | exact h.elim | (obtain ⟨h1, -⟩ := h; cases h1)) ?_ (fun hHeld => ?_)
  · trivial
  refine held_take 0 (oi := _) (v := ?_) rfl (by kernel_rfl) (by kernel_rfl) (by kernel_rfl) (fun _ _ _ h => h) (by rfl) (fun w hSw => ?_) (by assumption) ?_
  rotate_left
  · (try dsimp only at hSw); go_simp; try with_reducible rfl
  try simp only [Act.put, List.setIfInBounds_toArray, List.set_cons_zero, List.set_cons_succ]
  refine held_take 3 (oi := _) (v := ?_) rfl (by kernel_rfl) (by kernel_rfl) (by kernel_rfl) (fun _ _ _ h => h) (by rfl) (fun w hSw => ?_) (by assumption) ?_
  rotate_left
  · (try dsimp only at hSw); go_simp; try with_reducible rfl
  try simp only [Act.put, List.setIfInBounds_toArray, List.set_cons_zero, List.set_cons_succ]
  refine held_take 4 (oi := _) (v := ?_) rfl (by kernel_rfl) (by kernel_rfl) (by kernel_rfl) (fun _ _ _ h => h) (by rfl) (fun w hSw => ?_) (by assumption) ?_
  rotate_left
  · (try dsimp only at hSw); go_simp; try with_reducible rfl
  try simp only [Act.put, List.setIfInBounds_toArray, List.set_cons_zero, List.set_cons_succ]
  refine held_take 5 (oi := _) (v := ?_) rfl (by kernel_rfl) (by kernel_rfl) (by kernel_rfl) (fun _ _ _ h => h) (by rfl) (fun w hSw => ?_) (by assumption) ?_
  rotate_left
  · (try dsimp only at hSw); go_simp; try with_reducible rfl
  try simp only [Act.put, List.setIfInBounds_toArray, List.set_cons_zero, List.set_cons_succ]
  refine held_take 6 (oi := _) (v := ?_) rfl (by kernel_rfl) (by kernel_rfl) (by kernel_rfl) (fun _ _ _ h => h) (by rfl) (fun w hSw => ?_) (by assumption) ?_
  rotate_left
  · (try dsimp only at hSw); go_simp; try with_reducible rfl
  try simp only [Act.put, List.setIfInBounds_toArray, List.set_cons_zero, List.set_cons_succ]
  refine held_take 7 (oi := _) (v := ?_) rfl (by kernel_rfl) (by kernel_rfl) (by kernel_rfl) (fun _ _ _ h => h) (by rfl) (fun w hSw => ?_) (by assumption) ?_
  rotate_left
  · (try dsimp only at hSw); go_simp; try with_reducible rfl
  try simp only [Act.put, List.setIfInBounds_toArray, List.set_cons_zero, List.set_cons_succ]
  refine wpAnyH_ready (rs := [1]) (by kernel_rfl) (by simp) ?_
  refine held_cons 1 (o := _) rfl (fun KC hKC => ?_) AllReadyH.nil
  go_simp
  with_reducible refine Calls.mono (RSN.out _ ?_) ?_
  · exact (Kept.refl _ _).twin ⟨rfl, rfl, rfl, rfl⟩
  rintro e1 wA ⟨rfl, kX⟩
  have KA := Lib.hid kX
  clear kX
  dsimp only
  refine hKC.out _ _ ?_ (fun hHeld => ?_)
  · trivial
  clear hKC KC
  try simp only [Act.put, List.setIfInBounds_toArray, List.set_cons_zero, List.set_cons_succ]
  refine wpAnyH_ready (rs := [2]) (by kernel_rfl) (by simp) ?_
  refine held_cons 2 (o := _) rfl (fun KC hKC => ?_) AllReadyH.nil
  obtain ⟨gb, hgb⟩ : ∃ gb, wA.heap.size = gb := ⟨_, rfl⟩
  obtain ⟨C, hC⟩ : ∃ C, grownCap wA S0.size 0 5 = C := ⟨_, rfl⟩
  have hcv := conv_row wA S0
  have hCg : S0.size ≤ C := by rw [← hC]; exact grownCap_ge _ _ _ _
  rw [hC] at hcv
  have HGB := Lib.hid hgb
  clear hC hgb
  go_simp
  first | refine free_absD (K := KC _) hCg ?_ | refine free_abs (K := KC _) hCg ?_
  intro wB kB fB
  have KB := Lib.hid (KA.out.trans kB (fun _ _ e => e))
  have FB := Lib.hid fB
  clear kB fB hcv hCg
  refine hKC.out _ _ ?_ (fun hHeld => ?_)
  · trivial
  clear hKC KC
  try simp only [Act.put, List.setIfInBounds_toArray, List.set_cons_zero, List.set_cons_succ]
  refine wpAnyH_ready (rs := [8]) (by kernel_rfl) (by simp) ?_
  refine held_cons 8 (o := _) rfl (fun KC hKC => ?_) AllReadyH.nil
  refine step_append_free rfl (.tmp 44) (.tmp 49) rfl rfl FB.out rfl (B7M.out.kept KB.out (fun _ _ _ e => e)) (Nat.le_trans hSM (by decide)) ?_
  intro gs cs w3 hfs hgs ks
  have FS := Lib.hid hfs
  have KS := Lib.hid (KB.out.trans ks (fun b hb e => by have e : b = _ := e; have := KA.out.size; omega))
  have GS := Lib.hid (show w2.heap.size ≤ gs from by have h1 := KA.out.size; have h2 := KB.out.size; omega)
  clear hfs hgs ks
  refine hKC.out _ _ ?_ (fun hHeld => ?_)
  · trivial
  clear hKC KC
  try simp only [Act.put, List.setIfInBounds_toArray, List.set_cons_zero, List.set_cons_succ]
  refine held_take 9 (oi := _) (v := ?_) rfl (by kernel_rfl) (by kernel_rfl) (by kernel_rfl) (fun _ _ _ h => h) (by rfl) (fun w hSw => ?_) (by assumption) ?_
  rotate_left
  · (try dsimp only at hSw); go_simp; try with_reducible rfl
  try simp only [Act.put, List.setIfInBounds_toArray, List.set_cons_zero, List.set_cons_succ]
  refine wpAnyH_done (by kernel_rfl) (NoPanic.normal ?_) _
  obtain ⟨B, hB⟩ : ∃ B, S0 ++ sub k7 0 M7 = B := ⟨_, rfl⟩
  obtain ⟨T, hT⟩ : ∃ T, S0.size + M7 = T := ⟨_, rfl⟩
  rw [hB, hT] at FS
  rw [hT] at hSM ⊢
  have hST : T ≤ 450000 := by omega
  clear hB hT hm7 hm8 hm9 hm0 hsmall
  have hN : (T : Int).toNat = T := Int.toNat_natCast T
  gi_upto_if 53 with fail
  gi_cut [23] from 52 (fun s23 wx => ∃ B', FreeB wx gs T cs B' ∧ Kept (fun _ => False) w2 wx)
  case first =>
    by_cases hT0 : 0 < T
    · obtain ⟨KX, hKX, hKT⟩ : ∃ KX : Nat, (bits BinOp.and IntKind.i64 pos 65535).tmod (T : Int) = (KX : Int) ∧ KX < T := by
        obtain ⟨mm, hmm, _⟩ := mask_nat pos 16 (by omega) 65535 (by decide)
        exact ⟨mm % T, by rw [hmm]; exact tmod_nat mm T, Nat.mod_lt _ hT0⟩
      have hT1 : (0 : Int) < (T : Int) := by omega
      have hT2 : ¬ (T : Int) = 0 := by omega
      have hKT' : (KX : Int) < (T : Int) := by omega
      have hK0 : (0 : Int) ≤ (KX : Int) := by omega
      have hcell := FS.out.cell hKT
      have hfro := (FS.out.there KX (Nat.lt_of_lt_of_le hKT FS.out.le)).2
      obtain ⟨z, hz⟩ : ∃ z, (nums B).getD KX 0 = z := ⟨_, rfl⟩
      rw [hz] at hcell
      obtain ⟨y, hy, hy0, hy1⟩ : ∃ y, bits BinOp.xor IntKind.u8 z turn = y ∧ 0 ≤ y ∧ y ≤ 255 := xor_u8 z turn
      have KT := Lib.hid (And.intro hKT (And.intro hy0 hy1))
      clear hT0 hKT hz hy0 hy1
      gi_wp2_with fail
      gi_meet
      obtain ⟨b', -, hb'⟩ := free_set FS.out KT.out.1 KT.out.2.1 KT.out.2.2
      exact ⟨b', hb', KS.out.trans (Kept.one_set w3 ⟨gs, KX, none⟩ _) (fun b hb e => by have e : b = gs := e; have := GS.out; omega)⟩
    · obtain rfl : T = 0 := by omega
      clear hT0
      gi_wp2_with fail
      gi_meet
      exact ⟨B, FS.out, KS.out⟩
  case rest =>
    obtain ⟨B', hfb, hkb⟩ := hcut
    have FC := Lib.hid (And.intro hfb hkb)
    have MOK := Lib.hid (show m.nm.size ≤ 9223372036854775807 from hmn)
    clear hmn
    obtain ⟨mnm, mkd, mks, mvs, mmx⟩ := m
    obtain ⟨m, hm⟩ : ∃ m : TM, m = ⟨mnm, mkd, mks, mvs, mmx⟩ := ⟨_, rfl⟩
    rw [← hm] at SE HMR HS0 MOK
    have HM := Lib.hid hm
    have TMAP := Lib.hid (show ∀ W', Kept (fun _ => False) wc W' → Calls Tryz.prog 15 #[.pointer (some ⟨bt, 0, none⟩)] W' fun e w' => e = .returned (.agg #[.string mnm, .int .i64 mkd, .int .i64 mks, .int .i64 mvs, .int .i64 mmx]) ∧ Kept (fun _ => False) wc w' from by
      intro W' kk
      refine (ses_map ((SE.out.1.keep FC.out.2).keep kk)).mono ?_
      rintro e w' ⟨rfl, k'⟩
      exact ⟨by rw [HM.out]; rfl, kk.trans k' (fun _ _ e => e)⟩)
    clear hfb hkb hm
    gi_wp2_with fail
    gi_loopw [24, 25, 26, 27, 28, 29] (fun s24 s25 s26 s27 s28 s29 wr => ∃ i : Nat, i ≤ 2 ∧ s24 = .int .i64 (i : Int) ∧ Kept (fun _ => False) wc wr) (fun s24 _ _ _ _ _ _ => 2 - (intOf s24).toNat)
    case atStart => exact ⟨0, by omega, rfl, Kept.refl _ _⟩
    case round =>
      obtain ⟨i, hi, rfl, hkr⟩ := hrel
      have KR := Lib.hid hkr
      clear hkr
      by_cases hlt : i < 2
      · have hlt' : (i : Int) < 2 := by omega
        gi_wp2_with fail
        refine callsIn_WR.2 ((TMAP.out _ KR.out).mono ?_)
        rintro e w4 ⟨rfl, k4⟩
        have K4 := Lib.hid k4
        clear k4
        gi_upto_if 75 with fail
        obtain ⟨qx, hqx⟩ : ∃ qx, w4.heap.size = qx := ⟨_, rfl⟩
        obtain ⟨w5, hw5⟩ : ∃ w5, w4.alloc (.cells #[.string mnm, .int .i64 mkd, .int .i64 mks, .int .i64 mvs, .int .i64 mmx] 25) = w5 := ⟨_, rfl⟩
        have BX := Lib.hid (show MBox w5 qx m ∧ Kept (fun _ => False) w4 w5 ∧ w4.heap.size ≤ qx from ⟨by rw [← hw5, ← hqx, HM.out]; exact MBox.new w4 ⟨mnm, mkd, mks, mvs, mmx⟩ 25, by rw [← hw5]; exact Kept.one_alloc _ _, by omega⟩)
        rw [hqx, hw5]
        clear hqx hw5
        gi_cut [127] from 74 (fun s127 wx => s127 = u127 ∧ ∃ X : TM, X.nm.size ≤ 9223372036854775807 ∧ MBox wx qx X ∧ Kept (fun _ => False) w4 wx)
        case first =>
          by_cases hi1 : i = 1
          · subst hi1
            have hbx := BX.out.1
            rw [HM.out] at hbx
            obtain ⟨hrow, x0, x1, x2, x3, x4⟩ := hbx
            simp only at x0 x1 x2 x3 x4
            have f0 := hrow.frozen 0
            have f1 := hrow.frozen 1
            have f2 := hrow.frozen 2
            have f3 := hrow.frozen 3
            have f4 := hrow.frozen 4
            have hbq := (((KW2.out.2.kept FC.out.2 (fun e => e)).kept K4.out (fun e => e)).kept BX.out.2.1 (fun e => e))
            have XQ := Lib.hid hbq
            rw [HX.out.1] at hbq
            obtain ⟨-, y0, y1, y2, y3, y4⟩ := hbq
            simp only at y0 y1 y2 y3 y4
            clear hrow hlt hi
            gi_wp2_with fail
            gi_meet
            refine ⟨rfl, xm, by rw [HX.out.1]; exact HX.out.2, ?_, kept_set5 BX.out.2.1 BX.out.2.2⟩
            have hm5 := mbox_set5 (m := xm) BX.out.1.row
            rw [HX.out.1] at hm5 ⊢
            exact hm5
          · obtain rfl : i = 0 := by omega
            clear hi1 hlt hi
            gi_wp2_with fail
            gi_meet
            exact ⟨rfl, m, MOK.out, BX.out.1, BX.out.2.1⟩
        case rest =>
          obtain ⟨hu127, X, hXn, hXb, hXk⟩ := hcut
          subst hu127
          obtain ⟨xn, xk, xs, xv, xe⟩ := X
          obtain ⟨X, hX⟩ : ∃ X : TM, X = ⟨xn, xk, xs, xv, xe⟩ := ⟨_, rfl⟩
          have hXv : X.v = .agg #[.string xn, .int .i64 xk, .int .i64 xs, .int .i64 xv, .int .i64 xe] := by rw [hX]; rfl
          have HXX := Lib.hid (And.intro hX hXv)
          have FB := Lib.hid (FC.out.1.kept (K4.out.trans hXk (fun _ _ e => e)) (fun e => e))
          have CELLS := Lib.hid (show ∀ w', Kept (fun _ => False) wc w' → w'.cell? ⟨qx, 0, none⟩ = some (.string xn) ∧ w'.cell? ⟨qx, 1, none⟩ = some (.int .i64 xk) ∧ w'.cell? ⟨qx, 2, none⟩ = some (.int .i64 xs) ∧ w'.cell? ⟨qx, 3, none⟩ = some (.int .i64 xv) ∧ w'.cell? ⟨qx, 4, none⟩ = some (.int .i64 xe) ∧ (convert 23 9 (.slice (some ⟨gs, 0, none⟩) T cs)).run Tryz.prog w' = .ok (.string B') w' from fun w' kk => by
            obtain ⟨c0, c1, c2, c3, c4⟩ := mbox_cells hXb w' kk
            exact ⟨c0, c1, c2, c3, c4, (FB.out.kept kk (fun e => e)).bytes.conv⟩)
          have hBT : T = B'.size := FB.out.bytes.1
          have HBT := Lib.hid hBT
          have RESU := Lib.hid (show ∀ (W' : World) (a' : Option Addr) (c' : Nat), Kept (fun _ => False) wc W' → T ≤ c' → BytesAt W' a' T B' → Calls Tryz.prog 16 #[.agg #[.string xn, .int .i64 xk, .int .i64 xs, .int .i64 xv, .int .i64 xe], .slice a' T c'] W' fun e w' => ∃ pu eu, e = .returned (.tuple #[.pointer pu, .int .i64 eu]) ∧ Kept (fun _ => False) W' w' ∧ UD X B' pu eu w' from by
            intro W' a' c' kk hc' hb'
            have h := restore_u X hb' hc' (Nat.le_trans hST (by decide))
            rw [HXX.out.2] at h
            exact h)
          have RESV := Lib.hid (show ∀ (W' : World), Calls Tryz.prog 17 #[.agg #[.string xn, .int .i64 xk, .int .i64 xs, .int .i64 xv, .int .i64 xe], .string B'] W' fun e w' => ∃ pv ev, e = .returned (.tuple #[.pointer pv, .int .i64 ev]) ∧ Kept (fun _ => False) W' w' ∧ VD X B' pv ev w' from by
            intro W'
            have h := restore_v X B' W' (by rw [← HBT.out]; exact Nat.le_trans hST (by decide)) (by rw [HXX.out.1]; exact hXn)
            rw [HXX.out.2] at h
            exact h)
          have XK := Lib.hid hXk
          clear hX hXv hXb hXk hXn hBT
          gi_upto_region 15 with fail
          refine wpW_region_held (S := fun w' => w'.cell? ⟨qx, 0, none⟩ = some (.string xn) ∧ w'.cell? ⟨qx, 1, none⟩ = some (.int .i64 xk) ∧ w'.cell? ⟨qx, 2, none⟩ = some (.int .i64 xs) ∧ w'.cell? ⟨qx, 3, none⟩ = some (.int .i64 xv) ∧ w'.cell? ⟨qx, 4, none⟩ = some (.int .i64 xe) ∧ (convert 23 9 (.slice (some ⟨gs, 0, none⟩) T cs)).run Tryz.prog w' = .ok (.string B') w') (by kernel_rfl) (by kernel_rfl) (by rintro ⟨_, _, h⟩; first | exact h.elim | (obtain ⟨h1, -⟩ := h; cases h1)) ?_ (fun hHeld => ?_)
          · exact CELLS.out _ ((Kept.refl _ _).twin ⟨rfl, rfl, rfl, rfl⟩)
          refine held_take 0 (oi := _) (v := ?_) rfl (by kernel_rfl) (by kernel_rfl) (by kernel_rfl) (fun _ _ _ h => h) (by rfl) (fun w hSw => ?_) (by assumption) ?_
          rotate_left
          · (try dsimp only at hSw); go_simp; try with_reducible rfl
          try simp only [Act.put, List.setIfInBounds_toArray, List.set_cons_zero, List.set_cons_succ]
          refine held_take 2 (oi := _) (v := ?_) rfl (by kernel_rfl) (by kernel_rfl) (by kernel_rfl) (fun _ _ _ h => h) (by rfl) (fun w hSw => ?_) (by assumption) ?_
          rotate_left
          · (try dsimp only at hSw); go_simp; try with_reducible rfl
          try simp only [Act.put, List.setIfInBounds_toArray, List.set_cons_zero, List.set_cons_succ]
          refine wpAnyH_ready (rs := [1]) (by kernel_rfl) (by simp) ?_
          refine held_cons 1 (o := _) rfl (fun KC hKC => ?_) AllReadyH.nil
          go_simp
          first | refine alloc_abs (K := KC _) ?_ | refine alloc_absD (K := KC _) ?_
          intro wP kP hP
          have KP := Lib.hid (show Kept (fun _ => False) wc wP from kP)
          have OWN := Lib.hid (own_empty_at (size := 1) hP)
          have OF := Lib.hid (own_fresh (n := 0) (c := 0) (B := wc.heap.size) (X := wc.heap.size) (Nat.le_refl _))
          clear kP hP
          refine hKC.out _ _ ?_ (fun hHeld => ?_)
          · first | exact CELLS.out _ K8.out | exact CELLS.out _ K7.out | exact CELLS.out _ KP.out
          clear hKC KC
          try simp only [Act.put, List.setIfInBounds_toArray, List.set_cons_zero, List.set_cons_succ]
          refine wpAnyH_ready (rs := [3]) (by kernel_rfl) (by simp) ?_
          refine held_cons 3 (o := _) rfl (fun KC hKC => ?_) AllReadyH.nil
          refine step_append_mine rfl (.tmp 79) (.tmp 80) byteE rfl rfl OWN.out (some ⟨gs, 0, none⟩) T cs (byteVs B') rfl (by rw [byteVs_len, Nat.mul_one]; exact HBT.out.symm) (FB.out.kept KP.out (fun e => e)).bytes.src (byteVs_one B') (by rw [Nat.zero_add]; exact Nat.le_trans hST (by decide)) (by rw [Nat.zero_add, Nat.mul_one]; exact Nat.le_trans hST (by decide)) ?_
          intro a1 c1 w7 h2 h3 h4
          rw [Nat.zero_add] at h2 h4
          simp only [List.nil_append] at h2
          try simp only [Nat.zero_add]
          have K7 := Lib.hid (show Kept (fun _ => False) wc w7 from kept_own KP.out OF.out h3)
          have O7 := Lib.hid (own_bytesAt h2 HBT.out)
          have L7 := Lib.hid (show T ≤ c1 from by obtain ⟨_, _, e, -, -, h⟩ := own_form h2; cases e; exact h)
          clear h2 h3 h4
          refine hKC.out _ _ ?_ (fun hHeld => ?_)
          · first | exact CELLS.out _ K8.out | exact CELLS.out _ K7.out | exact CELLS.out _ KP.out
          clear hKC KC
          try simp only [Act.put, List.setIfInBounds_toArray, List.set_cons_zero, List.set_cons_succ]
          refine wpAnyH_ready (rs := [4]) (by kernel_rfl) (by simp) ?_
          refine held_cons 4 (o := _) rfl (fun KC hKC => ?_) AllReadyH.nil
          go_simp
          with_reducible refine Calls.mono (RESU.out _ _ _ K7.out L7.out O7.out) ?_
          rintro e1 w8 ⟨pu, eu, rfl, kX, hud⟩
          have K8 := Lib.hid (K7.out.trans kX (fun _ _ e => e))
          have HUD := Lib.hid hud
          clear kX hud
          dsimp only
          refine hKC.out _ _ ?_ (fun hHeld => ?_)
          · first | exact CELLS.out _ K8.out | exact CELLS.out _ K7.out | exact CELLS.out _ KP.out
          clear hKC KC
          try simp only [Act.put, List.setIfInBounds_toArray, List.set_cons_zero, List.set_cons_succ]
          refine held_take 5 (oi := _) (v := ?_) rfl (by kernel_rfl) (by kernel_rfl) (by kernel_rfl) (fun _ _ _ h => h) (by rfl) (fun w hSw => ?_) (by assumption) ?_
          rotate_left
          · (try dsimp only at hSw); go_simp; try with_reducible rfl
          try simp only [Act.put, List.setIfInBounds_toArray, List.set_cons_zero, List.set_cons_succ]
          refine held_take 6 (oi := _) (v := ?_) rfl (by kernel_rfl) (by kernel_rfl) (by kernel_rfl) (fun _ _ _ h => h) (by rfl) (fun w hSw => ?_) (by assumption) ?_
          rotate_left
          · (try dsimp only at hSw); go_simp; try with_reducible rfl
          try simp only [Act.put, List.setIfInBounds_toArray, List.set_cons_zero, List.set_cons_succ]
          refine held_take 7 (oi := _) (v := ?_) rfl (by kernel_rfl) (by kernel_rfl) (by kernel_rfl) (fun _ _ _ h => h) (by rfl) (fun w hSw => ?_) (by assumption) ?_
          rotate_left
          · (try dsimp only at hSw); go_simp; try with_reducible rfl
          try simp only [Act.put, List.setIfInBounds_toArray, List.set_cons_zero, List.set_cons_succ]
          refine held_take 8 (oi := _) (v := ?_) rfl (by kernel_rfl) (by kernel_rfl) (by kernel_rfl) (fun _ _ _ h => h) (by rfl) (fun w hSw => ?_) (by assumption) ?_
          rotate_left
          · (try dsimp only at hSw); go_simp; try with_reducible rfl
          try simp only [Act.put, List.setIfInBounds_toArray, List.set_cons_zero, List.set_cons_succ]
          refine held_take 9 (oi := _) (v := ?_) rfl (by kernel_rfl) (by kernel_rfl) (by kernel_rfl) (fun _ _ _ h => h) (by rfl) (fun w hSw => ?_) (by assumption) ?_
          rotate_left
          · (try dsimp only at hSw); go_simp; try with_reducible rfl
          try simp only [Act.put, List.setIfInBounds_toArray, List.set_cons_zero, List.set_cons_succ]
          refine wpAnyH_done (by kernel_rfl) (NoPanic.normal ?_) _
          obtain ⟨z0, z1, z2, z3, z4, z5⟩ := CELLS.out _ K8.out
          gi_wp2_with fail
          refine callsIn_WR.2 ((RESV.out _).mono ?_)
          rintro e1 w9 ⟨pv, ev, rfl, kX, hvd⟩
          have K9 := Lib.hid (K8.out.trans kX (fun _ _ e => e))
          have HUV := Lib.hid (uv_both (HUD.out.kept kX) hvd)
          clear kX hvd z0 z1 z2 z3 z4 z5
          rcases HUV.out with ⟨rfl, rfl, bu, bv, PU, FU, GV, rfl, rfl, hu1, hu2, hu3, hu4⟩ | ⟨rfl, rfl, rfl⟩
          · have HU := Lib.hid (And.intro hu1 (And.intro hu2 (And.intro hu3 hu4)))
            clear hu1 hu2 hu3 hu4
            have SNU := Lib.hid (show ∀ W', Kept (fun _ => False) w9 W' → Calls Tryz.prog 18 #[.pointer (some ⟨bu, 0, none⟩)] W' fun e w' => ∃ sv, e = .returned sv ∧ OwnBytes w' W' sv B' ∧ Kept (fun _ => False) w9 w' from by
              intro W' kk
              rw [← HU.out.2.1]
              refine (ses_snap (HU.out.1.keep kk)).mono ?_
              rintro e w' ⟨sv, rfl, h1, h2⟩
              exact ⟨sv, rfl, h1, kk.trans h2 (fun _ _ e => e)⟩)
            have SNV := Lib.hid (show ∀ W', Kept (fun _ => False) w9 W' → Calls Tryz.prog 14 #[.pointer (some ⟨bv, 0, none⟩)] W' fun e w' => e = .returned (.string B') ∧ Kept (fun _ => False) w9 w' from by
              intro W' kk
              refine (rses_snap (HU.out.2.2.1.keep kk)).mono ?_
              rintro e w' ⟨rfl, h2⟩
              exact ⟨by rw [HU.out.2.2.2], kk.trans h2 (fun _ _ e => e)⟩)
            have MAPU := Lib.hid (show ∀ W', Kept (fun _ => False) w9 W' → Calls Tryz.prog 15 #[.pointer (some ⟨bu, 0, none⟩)] W' fun e w' => e = .returned (.agg #[.string xn, .int .i64 xk, .int .i64 xs, .int .i64 xv, .int .i64 xe]) ∧ Kept (fun _ => False) w9 w' from by
              intro W' kk
              refine (ses_map (HU.out.1.keep kk)).mono ?_
              rintro e w' ⟨rfl, k'⟩
              exact ⟨by rw [HXX.out.2], kk.trans k' (fun _ _ e => e)⟩)
            have hself : (B'.toList == B'.toList) = true := bytes_self _
            have hnx : (xn.toList == xn.toList) = true := bytes_self _
            gi_upto_region 17 with fail
            refine wpW_region_held (S := fun w' => w'.cell? ⟨qx, 0, none⟩ = some (.string xn) ∧ w'.cell? ⟨qx, 1, none⟩ = some (.int .i64 xk) ∧ w'.cell? ⟨qx, 2, none⟩ = some (.int .i64 xs) ∧ w'.cell? ⟨qx, 3, none⟩ = some (.int .i64 xv) ∧ w'.cell? ⟨qx, 4, none⟩ = some (.int .i64 xe) ∧ (convert 23 9 (.slice (some ⟨gs, 0, none⟩) T cs)).run Tryz.prog w' = .ok (.string B') w') (by kernel_rfl) (by kernel_rfl) (by rintro ⟨_, _, h⟩; first | exact h.elim | (obtain ⟨h1, -⟩ := h; cases h1)) ?_ (fun hHeld => ?_)
            · exact CELLS.out _ (K9.out.trans ((Kept.refl _ _).twin ⟨rfl, rfl, rfl, rfl⟩) (fun _ _ e => e))
            refine held_take 0 (oi := _) (v := ?_) rfl (by kernel_rfl) (by kernel_rfl) (by kernel_rfl) (fun _ _ _ h => h) (by rfl) (fun w hSw => ?_) (by assumption) ?_
            rotate_left
            · (try dsimp only at hSw); go_simp; try with_reducible rfl
            try simp only [Act.put, List.setIfInBounds_toArray, List.set_cons_zero, List.set_cons_succ]
            refine held_take 1 (oi := _) (v := ?_) rfl (by kernel_rfl) (by kernel_rfl) (by kernel_rfl) (fun _ _ _ h => h) (by rfl) (fun w hSw => ?_) (by assumption) ?_
            rotate_left
            · (try dsimp only at hSw); go_simp; try with_reducible rfl
            try simp only [Act.put, List.setIfInBounds_toArray, List.set_cons_zero, List.set_cons_succ]
            refine held_take 2 (oi := _) (v := ?_) rfl (by kernel_rfl) (by kernel_rfl) (by kernel_rfl) (fun _ _ _ h => h) (by rfl) (fun w hSw => ?_) (by assumption) ?_
            rotate_left
            · (try dsimp only at hSw); go_simp; try with_reducible rfl
            try simp only [Act.put, List.setIfInBounds_toArray, List.set_cons_zero, List.set_cons_succ]
            refine held_take 3 (oi := _) (v := ?_) rfl (by kernel_rfl) (by kernel_rfl) (by kernel_rfl) (fun _ _ _ h => h) (by rfl) (fun w hSw => ?_) (by assumption) ?_
            rotate_left
            · (try dsimp only at hSw); go_simp; try with_reducible rfl
            try simp only [Act.put, List.setIfInBounds_toArray, List.set_cons_zero, List.set_cons_succ]
            refine held_take 4 (oi := _) (v := ?_) rfl (by kernel_rfl) (by kernel_rfl) (by kernel_rfl) (fun _ _ _ h => h) (by rfl) (fun w hSw => ?_) (by assumption) ?_
            rotate_left
            · (try dsimp only at hSw); go_simp; try with_reducible rfl
            try simp only [Act.put, List.setIfInBounds_toArray, List.set_cons_zero, List.set_cons_succ]
            refine held_take 5 (oi := _) (v := ?_) rfl (by kernel_rfl) (by kernel_rfl) (by kernel_rfl) (fun _ _ _ h => h) (by rfl) (fun w hSw => ?_) (by assumption) ?_
            rotate_left
            · (try dsimp only at hSw); go_simp; try with_reducible rfl
            try simp only [Act.put, List.setIfInBounds_toArray, List.set_cons_zero, List.set_cons_succ]
            refine held_take 6 (oi := _) (v := ?_) rfl (by kernel_rfl) (by kernel_rfl) (by kernel_rfl) (fun _ _ _ h => h) (by rfl) (fun w hSw => ?_) (by assumption) ?_
            rotate_left
            · (try dsimp only at hSw); go_simp; try with_reducible rfl
            try simp only [Act.put, List.setIfInBounds_toArray, List.set_cons_zero, List.set_cons_succ]
            refine held_take 7 (oi := _) (v := ?_) rfl (by kernel_rfl) (by kernel_rfl) (by kernel_rfl) (fun _ _ _ h => h) (by rfl) (fun w hSw => ?_) (by assumption) ?_
            rotate_left
            · (try dsimp only at hSw); go_simp; try with_reducible rfl
            try simp only [Act.put, List.setIfInBounds_toArray, List.set_cons_zero, List.set_cons_succ]
            refine held_take 8 (oi := _) (v := ?_) rfl (by kernel_rfl) (by kernel_rfl) (by kernel_rfl) (fun _ _ _ h => h) (by rfl) (fun w hSw => ?_) (by assumption) ?_
            rotate_left
            · (try dsimp only at hSw); go_simp; try with_reducible rfl
            try simp only [Act.put, List.setIfInBounds_toArray, List.set_cons_zero, List.set_cons_succ]
            refine held_take 9 (oi := _) (v := ?_) rfl (by kernel_rfl) (by kernel_rfl) (by kernel_rfl) (fun _ _ _ h => h) (by rfl) (fun w hSw => ?_) (by assumption) ?_
            rotate_left
            · (try dsimp only at hSw); go_simp; try with_reducible rfl
            try simp only [Act.put, List.setIfInBounds_toArray, List.set_cons_zero, List.set_cons_succ]
            refine held_take 10 (oi := _) (v := ?_) rfl (by kernel_rfl) (by kernel_rfl) (by kernel_rfl) (fun _ _ _ h => h) (by rfl) (fun w hSw => ?_) (by assumption) ?_
            rotate_left
            · (try dsimp only at hSw); go_simp; try with_reducible rfl
            try simp only [Act.put, List.setIfInBounds_toArray, List.set_cons_zero, List.set_cons_succ]
            refine held_take 11 (oi := _) (v := ?_) rfl (by kernel_rfl) (by kernel_rfl) (by kernel_rfl) (fun _ _ _ h => h) (by rfl) (fun w hSw => ?_) (by assumption) ?_
            rotate_left
            · (try dsimp only at hSw); go_simp; try with_reducible rfl
            try simp only [Act.put, List.setIfInBounds_toArray, List.set_cons_zero, List.set_cons_succ]
            refine held_take 12 (oi := _) (v := ?_) rfl (by kernel_rfl) (by kernel_rfl) (by kernel_rfl) (fun _ _ _ h => h) (by rfl) (fun w hSw => ?_) (by assumption) ?_
            rotate_left
            · (try dsimp only at hSw); go_simp; try with_reducible rfl
            try simp only [Act.put, List.setIfInBounds_toArray, List.set_cons_zero, List.set_cons_succ]
            refine held_take 13 (oi := _) (v := ?_) rfl (by kernel_rfl) (by kernel_rfl) (by kernel_rfl) (fun _ _ _ h => h) (by rfl) (fun w hSw => ?_) (by assumption) ?_
            rotate_left
            · (try dsimp only at hSw); go_simp; try with_reducible rfl
            try simp only [Act.put, List.setIfInBounds_toArray, List.set_cons_zero, List.set_cons_succ]
            refine held_take 14 (oi := _) (v := ?_) rfl (by kernel_rfl) (by kernel_rfl) (by kernel_rfl) (fun _ _ _ h => h) (by rfl) (fun w hSw => ?_) (by assumption) ?_
            rotate_left
            · (try dsimp only at hSw); go_simp; try with_reducible rfl
            try simp only [Act.put, List.setIfInBounds_toArray, List.set_cons_zero, List.set_cons_succ]
            refine held_take 17 (oi := _) (v := ?_) rfl (by kernel_rfl) (by kernel_rfl) (by kernel_rfl) (fun _ _ _ h => h) (by rfl) (fun w hSw => ?_) (by assumption) ?_
            rotate_left
            · (try dsimp only at hSw); go_simp; try with_reducible rfl
            try simp only [Act.put, List.setIfInBounds_toArray, List.set_cons_zero, List.set_cons_succ]
            refine held_take 18 (oi := _) (v := ?_) rfl (by kernel_rfl) (by kernel_rfl) (by kernel_rfl) (fun _ _ _ h => h) (by rfl) (fun w hSw => ?_) (by assumption) ?_
            rotate_left
            · (try dsimp only at hSw); go_simp; try with_reducible rfl
            try simp only [Act.put, List.setIfInBounds_toArray, List.set_cons_zero, List.set_cons_succ]
            refine wpAnyH_ready (rs := [15]) (by kernel_rfl) (by simp) ?_
            refine held_cons 15 (o := _) rfl (fun KC hKC => ?_) AllReadyH.nil
            go_simp
            with_reducible refine Calls.mono (SNU.out _ ?_) ?_
            · exact (Kept.refl _ _).twin ⟨rfl, rfl, rfl, rfl⟩
            rintro e1 wE ⟨vE, rfl, hsX, kX⟩
            obtain ⟨aE, cE, rfl, -, hyX, -⟩ := hsX.form
            have hcE := hyX.conv (c := cE)
            have KwE := Lib.hid kX
            clear hsX hyX kX
            dsimp only
            refine hKC.out _ _ ?_ (fun hHeld => ?_)
            · first | exact CELLS.out _ (K9.out.trans KwG.out (fun _ _ e => e)) | exact CELLS.out _ (K9.out.trans KwF.out (fun _ _ e => e)) | exact CELLS.out _ (K9.out.trans KwE.out (fun _ _ e => e))
            clear hKC KC
            try simp only [Act.put, List.setIfInBounds_toArray, List.set_cons_zero, List.set_cons_succ]
            refine wpAnyH_ready (rs := [16]) (by kernel_rfl) (by simp) ?_
            refine held_cons 16 (o := _) rfl (fun KC hKC => ?_) AllReadyH.nil
            go_simp
            refine hKC.out _ _ ?_ (fun hHeld => ?_)
            · first | exact CELLS.out _ (K9.out.trans KwG.out (fun _ _ e => e)) | exact CELLS.out _ (K9.out.trans KwF.out (fun _ _ e => e)) | exact CELLS.out _ (K9.out.trans KwE.out (fun _ _ e => e))
            clear hKC KC
            try simp only [Act.put, List.setIfInBounds_toArray, List.set_cons_zero, List.set_cons_succ]
            refine held_take 19 (oi := _) (v := ?_) rfl (by kernel_rfl) (by kernel_rfl) (by kernel_rfl) (fun _ _ _ h => h) (by rfl) (fun w hSw => ?_) (by assumption) ?_
            rotate_left
            · (try dsimp only at hSw); go_simp; try with_reducible rfl
            try simp only [Act.put, List.setIfInBounds_toArray, List.set_cons_zero, List.set_cons_succ]
            refine held_take 20 (oi := _) (v := ?_) rfl (by kernel_rfl) (by kernel_rfl) (by kernel_rfl) (fun _ _ _ h => h) (by rfl) (fun w hSw => ?_) (by assumption) ?_
            rotate_left
            · (try dsimp only at hSw); go_simp; try with_reducible rfl
            try simp only [Act.put, List.setIfInBounds_toArray, List.set_cons_zero, List.set_cons_succ]
            refine held_take 21 (oi := _) (v := ?_) rfl (by kernel_rfl) (by kernel_rfl) (by kernel_rfl) (fun _ _ _ h => h) (by rfl) (fun w hSw => ?_) (by assumption) ?_
            rotate_left
            · (try dsimp only at hSw); go_simp; try with_reducible rfl
            try simp only [Act.put, List.setIfInBounds_toArray, List.set_cons_zero, List.set_cons_succ]
            refine held_take 23 (oi := _) (v := ?_) rfl (by kernel_rfl) (by kernel_rfl) (by kernel_rfl) (fun _ _ _ h => h) (by rfl) (fun w hSw => ?_) (by assumption) ?_
            rotate_left
            · (try dsimp only at hSw); go_simp; try with_reducible rfl
            try simp only [Act.put, List.setIfInBounds_toArray, List.set_cons_zero, List.set_cons_succ]
            refine wpAnyH_ready (rs := [22]) (by kernel_rfl) (by simp) ?_
            refine held_cons 22 (o := _) rfl (fun KC hKC => ?_) AllReadyH.nil
            go_simp
            with_reducible refine Calls.mono (MAPU.out _ ?_) ?_
            · exact KwE.out
            rintro e1 wF ⟨rfl, kX⟩
            have KwF := Lib.hid kX
            clear kX
            dsimp only
            refine hKC.out _ _ ?_ (fun hHeld => ?_)
            · first | exact CELLS.out _ (K9.out.trans KwG.out (fun _ _ e => e)) | exact CELLS.out _ (K9.out.trans KwF.out (fun _ _ e => e)) | exact CELLS.out _ (K9.out.trans KwE.out (fun _ _ e => e))
            clear hKC KC
            try simp only [Act.put, List.setIfInBounds_toArray, List.set_cons_zero, List.set_cons_succ]
            refine held_take 24 (oi := _) (v := ?_) rfl (by kernel_rfl) (by kernel_rfl) (by kernel_rfl) (fun _ _ _ h => h) (by rfl) (fun w hSw => ?_) (by assumption) ?_
            rotate_left
            · (try dsimp only at hSw); go_simp; try with_reducible rfl
            try simp only [Act.put, List.setIfInBounds_toArray, List.set_cons_zero, List.set_cons_succ]
            refine held_take 25 (oi := _) (v := ?_) rfl (by kernel_rfl) (by kernel_rfl) (by kernel_rfl) (fun _ _ _ h => h) (by rfl) (fun w hSw => ?_) (by assumption) ?_
            rotate_left
            · (try dsimp only at hSw); go_simp; try with_reducible rfl
            try simp only [Act.put, List.setIfInBounds_toArray, List.set_cons_zero, List.set_cons_succ]
            refine held_take 26 (oi := _) (v := ?_) rfl (by kernel_rfl) (by kernel_rfl) (by kernel_rfl) (fun _ _ _ h => h) (by rfl) (fun w hSw => ?_) (by assumption) ?_
            rotate_left
            · (try dsimp only at hSw); go_simp; try with_reducible rfl
            try simp only [Act.put, List.setIfInBounds_toArray, List.set_cons_zero, List.set_cons_succ]
            refine held_take 27 (oi := _) (v := ?_) rfl (by kernel_rfl) (by kernel_rfl) (by kernel_rfl) (fun _ _ _ h => h) (by rfl) (fun w hSw => ?_) (by assumption) ?_
            rotate_left
            · (try dsimp only at hSw); go_simp; try with_reducible rfl
            try simp only [Act.put, List.setIfInBounds_toArray, List.set_cons_zero, List.set_cons_succ]
            refine held_take 29 (oi := _) (v := ?_) rfl (by kernel_rfl) (by kernel_rfl) (by kernel_rfl) (fun _ _ _ h => h) (by rfl) (fun w hSw => ?_) (by assumption) ?_
            rotate_left
            · (try dsimp only at hSw); go_simp; try with_reducible rfl
            try simp only [Act.put, List.setIfInBounds_toArray, List.set_cons_zero, List.set_cons_succ]
            refine held_take 30 (oi := _) (v := ?_) rfl (by kernel_rfl) (by kernel_rfl) (by kernel_rfl) (fun _ _ _ h => h) (by rfl) (fun w hSw => ?_) (by assumption) ?_
            rotate_left
            · (try dsimp only at hSw); go_simp; try with_reducible rfl
            try simp only [Act.put, List.setIfInBounds_toArray, List.set_cons_zero, List.set_cons_succ]
            refine wpAnyH_ready (rs := [28]) (by kernel_rfl) (by simp) ?_
            refine held_cons 28 (o := _) rfl (fun KC hKC => ?_) AllReadyH.nil
            go_simp
            with_reducible refine Calls.mono (SNV.out _ ?_) ?_
            · exact KwF.out
            rintro e1 wG ⟨rfl, kX⟩
            have KwG := Lib.hid kX
            clear kX
            dsimp only
            refine hKC.out _ _ ?_ (fun hHeld => ?_)
            · first | exact CELLS.out _ (K9.out.trans KwG.out (fun _ _ e => e)) | exact CELLS.out _ (K9.out.trans KwF.out (fun _ _ e => e)) | exact CELLS.out _ (K9.out.trans KwE.out (fun _ _ e => e))
            clear hKC KC
            try simp only [Act.put, List.setIfInBounds_toArray, List.set_cons_zero, List.set_cons_succ]
            refine held_take 31 (oi := _) (v := ?_) rfl (by kernel_rfl) (by kernel_rfl) (by kernel_rfl) (fun _ _ _ h => h) (by rfl) (fun w hSw => ?_) (by assumption) ?_
            rotate_left
            · (try dsimp only at hSw); go_simp; try with_reducible rfl
            try simp only [Act.put, List.setIfInBounds_toArray, List.set_cons_zero, List.set_cons_succ]
            refine held_take 32 (oi := _) (v := ?_) rfl (by kernel_rfl) (by kernel_rfl) (by kernel_rfl) (fun _ _ _ h => h) (by rfl) (fun w hSw => ?_) (by assumption) ?_
            rotate_left
            · (try dsimp only at hSw); go_simp; try with_reducible rfl
            try simp only [Act.put, List.setIfInBounds_toArray, List.set_cons_zero, List.set_cons_succ]
            refine held_take 33 (oi := _) (v := ?_) rfl (by kernel_rfl) (by kernel_rfl) (by kernel_rfl) (fun _ _ _ h => h) (by rfl) (fun w hSw => ?_) (by assumption) ?_
            rotate_left
            · (try dsimp only at hSw); go_simp; try with_reducible rfl
            try simp only [Act.put, List.setIfInBounds_toArray, List.set_cons_zero, List.set_cons_succ]
            refine held_take 34 (oi := _) (v := ?_) rfl (by kernel_rfl) (by kernel_rfl) (by kernel_rfl) (fun _ _ _ h => h) (by rfl) (fun w hSw => ?_) (by assumption) ?_
            rotate_left
            · (try dsimp only at hSw); go_simp; try with_reducible rfl
            try simp only [Act.put, List.setIfInBounds_toArray, List.set_cons_zero, List.set_cons_succ]
            refine wpAnyH_done (by kernel_rfl) (NoPanic.normal ?_) _
            gi_wp2_with fail
            go_roundw
            case rel => exact ⟨i + 1, by omega, by go_num, K4.out.trans (XK.out.trans (K9.out.trans KwG.out (fun _ _ e => e)) (fun _ _ e => e)) (fun _ _ e => e)⟩
            case measure => (simp [intOf] <;> omega)
          · gi_upto_region 17 with fail
            refine wpW_region_held (S := fun w' => w'.cell? ⟨qx, 0, none⟩ = some (.string xn) ∧ w'.cell? ⟨qx, 1, none⟩ = some (.int .i64 xk) ∧ w'.cell? ⟨qx, 2, none⟩ = some (.int .i64 xs) ∧ w'.cell? ⟨qx, 3, none⟩ = some (.int .i64 xv) ∧ w'.cell? ⟨qx, 4, none⟩ = some (.int .i64 xe) ∧ (convert 23 9 (.slice (some ⟨gs, 0, none⟩) T cs)).run Tryz.prog w' = .ok (.string B') w') (by kernel_rfl) (by kernel_rfl) (by rintro ⟨_, _, h⟩; first | exact h.elim | (obtain ⟨h1, -⟩ := h; cases h1)) ?_ (fun hHeld => ?_)
            · exact CELLS.out _ (K9.out.trans ((Kept.refl _ _).twin ⟨rfl, rfl, rfl, rfl⟩) (fun _ _ e => e))
            refine held_take 0 (oi := _) (v := ?_) rfl (by kernel_rfl) (by kernel_rfl) (by kernel_rfl) (fun _ _ _ h => h) (by rfl) (fun w hSw => ?_) (by assumption) ?_
            rotate_left
            · (try dsimp only at hSw); go_simp; try with_reducible rfl
            try simp only [Act.put, List.setIfInBounds_toArray, List.set_cons_zero, List.set_cons_succ]
            refine held_take 1 (oi := _) (v := ?_) rfl (by kernel_rfl) (by kernel_rfl) (by kernel_rfl) (fun _ _ _ h => h) (by rfl) (fun w hSw => ?_) (by assumption) ?_
            rotate_left
            · (try dsimp only at hSw); go_simp; try with_reducible rfl
            try simp only [Act.put, List.setIfInBounds_toArray, List.set_cons_zero, List.set_cons_succ]
            refine held_take 2 (oi := _) (v := ?_) rfl (by kernel_rfl) (by kernel_rfl) (by kernel_rfl) (fun _ _ _ h => h) (by rfl) (fun w hSw => ?_) (by assumption) ?_
            rotate_left
            · (try dsimp only at hSw); go_simp; try with_reducible rfl
            try simp only [Act.put, List.setIfInBounds_toArray, List.set_cons_zero, List.set_cons_succ]
            refine held_take 3 (oi := _) (v := ?_) rfl (by kernel_rfl) (by kernel_rfl) (by kernel_rfl) (fun _ _ _ h => h) (by rfl) (fun w hSw => ?_) (by assumption) ?_
            rotate_left
            · (try dsimp only at hSw); go_simp; try with_reducible rfl
            try simp only [Act.put, List.setIfInBounds_toArray, List.set_cons_zero, List.set_cons_succ]
            refine held_take 4 (oi := _) (v := ?_) rfl (by kernel_rfl) (by kernel_rfl) (by kernel_rfl) (fun _ _ _ h => h) (by rfl) (fun w hSw => ?_) (by assumption) ?_
            rotate_left
            · (try dsimp only at hSw); go_simp; try with_reducible rfl
            try simp only [Act.put, List.setIfInBounds_toArray, List.set_cons_zero, List.set_cons_succ]
            refine held_take 5 (oi := _) (v := ?_) rfl (by kernel_rfl) (by kernel_rfl) (by kernel_rfl) (fun _ _ _ h => h) (by rfl) (fun w hSw => ?_) (by assumption) ?_
            rotate_left
            · (try dsimp only at hSw); go_simp; try with_reducible rfl
            try simp only [Act.put, List.setIfInBounds_toArray, List.set_cons_zero, List.set_cons_succ]
            refine held_take 6 (oi := _) (v := ?_) rfl (by kernel_rfl) (by kernel_rfl) (by kernel_rfl) (fun _ _ _ h => h) (by rfl) (fun w hSw => ?_) (by assumption) ?_
            rotate_left
            · (try dsimp only at hSw); go_simp; try with_reducible rfl
            try simp only [Act.put, List.setIfInBounds_toArray, List.set_cons_zero, List.set_cons_succ]
            refine held_take 7 (oi := _) (v := ?_) rfl (by kernel_rfl) (by kernel_rfl) (by kernel_rfl) (fun _ _ _ h => h) (by rfl) (fun w hSw => ?_) (by assumption) ?_
            rotate_left
            · (try dsimp only at hSw); go_simp; try with_reducible rfl
            try simp only [Act.put, List.setIfInBounds_toArray, List.set_cons_zero, List.set_cons_succ]
            refine held_take 8 (oi := _) (v := ?_) rfl (by kernel_rfl) (by kernel_rfl) (by kernel_rfl) (fun _ _ _ h => h) (by rfl) (fun w hSw => ?_) (by assumption) ?_
            rotate_left
            · (try dsimp only at hSw); go_simp; try with_reducible rfl
            try simp only [Act.put, List.setIfInBounds_toArray, List.set_cons_zero, List.set_cons_succ]
            refine held_take 9 (oi := _) (v := ?_) rfl (by kernel_rfl) (by kernel_rfl) (by kernel_rfl) (fun _ _ _ h => h) (by rfl) (fun w hSw => ?_) (by assumption) ?_
            rotate_left
            · (try dsimp only at hSw); go_simp; try with_reducible rfl
            try simp only [Act.put, List.setIfInBounds_toArray, List.set_cons_zero, List.set_cons_succ]
            refine held_take 10 (oi := _) (v := ?_) rfl (by kernel_rfl) (by kernel_rfl) (by kernel_rfl) (fun _ _ _ h => h) (by rfl) (fun w hSw => ?_) (by assumption) ?_
            rotate_left
            · (try dsimp only at hSw); go_simp; try with_reducible rfl
            try simp only [Act.put, List.setIfInBounds_toArray, List.set_cons_zero, List.set_cons_succ]
            refine held_take 11 (oi := _) (v := ?_) rfl (by kernel_rfl) (by kernel_rfl) (by kernel_rfl) (fun _ _ _ h => h) (by rfl) (fun w hSw => ?_) (by assumption) ?_
            rotate_left
            · (try dsimp only at hSw); go_simp; try with_reducible rfl
            try simp only [Act.put, List.setIfInBounds_toArray, List.set_cons_zero, List.set_cons_succ]
            refine held_take 12 (oi := _) (v := ?_) rfl (by kernel_rfl) (by kernel_rfl) (by kernel_rfl) (fun _ _ _ h => h) (by rfl) (fun w hSw => ?_) (by assumption) ?_
            rotate_left
            · (try dsimp only at hSw); go_simp; try with_reducible rfl
            try simp only [Act.put, List.setIfInBounds_toArray, List.set_cons_zero, List.set_cons_succ]
            refine held_take 13 (oi := _) (v := ?_) rfl (by kernel_rfl) (by kernel_rfl) (by kernel_rfl) (fun _ _ _ h => h) (by rfl) (fun w hSw => ?_) (by assumption) ?_
            rotate_left
            · (try dsimp only at hSw); go_simp; try with_reducible rfl
            try simp only [Act.put, List.setIfInBounds_toArray, List.set_cons_zero, List.set_cons_succ]
            refine held_pass 14 (oi := _) rfl (by kernel_rfl) (by kernel_rfl) (by kernel_rfl) (fun _ _ _ h => h) (by rfl) (by assumption) ?_
            try simp only [Act.put, List.setIfInBounds_toArray, List.set_cons_zero, List.set_cons_succ]
            refine held_pass 15 (oi := _) rfl (by kernel_rfl) (by kernel_rfl) (by kernel_rfl) (fun _ _ _ h => h) (by rfl) (by assumption) ?_
            try simp only [Act.put, List.setIfInBounds_toArray, List.set_cons_zero, List.set_cons_succ]
            refine held_pass 16 (oi := _) rfl (by kernel_rfl) (by kernel_rfl) (by kernel_rfl) (fun _ _ _ h => h) (by rfl) (by assumption) ?_
            try simp only [Act.put, List.setIfInBounds_toArray, List.set_cons_zero, List.set_cons_succ]
            refine held_pass 17 (oi := _) rfl (by kernel_rfl) (by kernel_rfl) (by kernel_rfl) (fun _ _ _ h => h) (by rfl) (by assumption) ?_
            try simp only [Act.put, List.setIfInBounds_toArray, List.set_cons_zero, List.set_cons_succ]
            refine held_pass 18 (oi := _) rfl (by kernel_rfl) (by kernel_rfl) (by kernel_rfl) (fun _ _ _ h => h) (by rfl) (by assumption) ?_
            try simp only [Act.put, List.setIfInBounds_toArray, List.set_cons_zero, List.set_cons_succ]
            refine held_pass 19 (oi := _) rfl (by kernel_rfl) (by kernel_rfl) (by kernel_rfl) (fun _ _ _ h => h) (by rfl) (by assumption) ?_
            try simp only [Act.put, List.setIfInBounds_toArray, List.set_cons_zero, List.set_cons_succ]
            refine held_pass 20 (oi := _) rfl (by kernel_rfl) (by kernel_rfl) (by kernel_rfl) (fun _ _ _ h => h) (by rfl) (by assumption) ?_
            try simp only [Act.put, List.setIfInBounds_toArray, List.set_cons_zero, List.set_cons_succ]
            refine held_pass 21 (oi := _) rfl (by kernel_rfl) (by kernel_rfl) (by kernel_rfl) (fun _ _ _ h => h) (by rfl) (by assumption) ?_
            try simp only [Act.put, List.setIfInBounds_toArray, List.set_cons_zero, List.set_cons_succ]
            refine held_pass 22 (oi := _) rfl (by kernel_rfl) (by kernel_rfl) (by kernel_rfl) (fun _ _ _ h => h) (by rfl) (by assumption) ?_
            try simp only [Act.put, List.setIfInBounds_toArray, List.set_cons_zero, List.set_cons_succ]
            refine held_pass 23 (oi := _) rfl (by kernel_rfl) (by kernel_rfl) (by kernel_rfl) (fun _ _ _ h => h) (by rfl) (by assumption) ?_
            try simp only [Act.put, List.setIfInBounds_toArray, List.set_cons_zero, List.set_cons_succ]
            refine held_pass 24 (oi := _) rfl (by kernel_rfl) (by kernel_rfl) (by kernel_rfl) (fun _ _ _ h => h) (by rfl) (by assumption) ?_
            try simp only [Act.put, List.setIfInBounds_toArray, List.set_cons_zero, List.set_cons_succ]
            refine held_pass 25 (oi := _) rfl (by kernel_rfl) (by kernel_rfl) (by kernel_rfl) (fun _ _ _ h => h) (by rfl) (by assumption) ?_
            try simp only [Act.put, List.setIfInBounds_toArray, List.set_cons_zero, List.set_cons_succ]
            refine held_pass 26 (oi := _) rfl (by kernel_rfl) (by kernel_rfl) (by kernel_rfl) (fun _ _ _ h => h) (by rfl) (by assumption) ?_
            try simp only [Act.put, List.setIfInBounds_toArray, List.set_cons_zero, List.set_cons_succ]
            refine held_pass 27 (oi := _) rfl (by kernel_rfl) (by kernel_rfl) (by kernel_rfl) (fun _ _ _ h => h) (by rfl) (by assumption) ?_
            try simp only [Act.put, List.setIfInBounds_toArray, List.set_cons_zero, List.set_cons_succ]
            refine held_pass 28 (oi := _) rfl (by kernel_rfl) (by kernel_rfl) (by kernel_rfl) (fun _ _ _ h => h) (by rfl) (by assumption) ?_
            try simp only [Act.put, List.setIfInBounds_toArray, List.set_cons_zero, List.set_cons_succ]
            refine held_pass 29 (oi := _) rfl (by kernel_rfl) (by kernel_rfl) (by kernel_rfl) (fun _ _ _ h => h) (by rfl) (by assumption) ?_
            try simp only [Act.put, List.setIfInBounds_toArray, List.set_cons_zero, List.set_cons_succ]
            refine held_pass 30 (oi := _) rfl (by kernel_rfl) (by kernel_rfl) (by kernel_rfl) (fun _ _ _ h => h) (by rfl) (by assumption) ?_
            try simp only [Act.put, List.setIfInBounds_toArray, List.set_cons_zero, List.set_cons_succ]
            refine held_pass 31 (oi := _) rfl (by kernel_rfl) (by kernel_rfl) (by kernel_rfl) (fun _ _ _ h => h) (by rfl) (by assumption) ?_
            try simp only [Act.put, List.setIfInBounds_toArray, List.set_cons_zero, List.set_cons_succ]
            refine held_pass 32 (oi := _) rfl (by kernel_rfl) (by kernel_rfl) (by kernel_rfl) (fun _ _ _ h => h) (by rfl) (by assumption) ?_
            try simp only [Act.put, List.setIfInBounds_toArray, List.set_cons_zero, List.set_cons_succ]
            refine held_take 33 (oi := _) (v := ?_) rfl (by kernel_rfl) (by kernel_rfl) (by kernel_rfl) (fun _ _ _ h => h) (by rfl) (fun w hSw => ?_) (by assumption) ?_
            rotate_left
            · (try dsimp only at hSw); go_simp; try with_reducible rfl
            try simp only [Act.put, List.setIfInBounds_toArray, List.set_cons_zero, List.set_cons_succ]
            refine held_take 34 (oi := _) (v := ?_) rfl (by kernel_rfl) (by kernel_rfl) (by kernel_rfl) (fun _ _ _ h => h) (by rfl) (fun w hSw => ?_) (by assumption) ?_
            rotate_left
            · (try dsimp only at hSw); go_simp; try with_reducible rfl
            try simp only [Act.put, List.setIfInBounds_toArray, List.set_cons_zero, List.set_cons_succ]
            refine wpAnyH_done (by kernel_rfl) (NoPanic.normal ?_) _
            gi_wp2_with fail
            go_roundw
            case rel => exact ⟨i + 1, by omega, by go_num, K4.out.trans (XK.out.trans K9.out.drew (fun _ _ e => e)) (fun _ _ e => e)⟩
            case measure => (simp [intOf] <;> omega)
      · obtain rfl : i = 2 := by omega
        have FIN := Lib.hid ((KW2.out.1.trans FC.out.2 (fun _ _ e => e)).trans KR.out (fun _ _ e => e))
        clear hlt
        gi_wp2_with fail
        refine leaves_marks [] _ (by simp) (fun d hd => by cases hd) (fun W' kd' => ?_)
        exact ⟨_, results_tmp rfl _ _ _, rfl, FIN.out.trans kd' (fun _ _ e => by cases e)⟩
end Go.Proofs.YtjkgimloafpipaaGreat
