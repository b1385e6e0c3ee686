/- law11.made: a small table and the document's beside it, with up to thirty puts. -/
import Derived.Test.YtjkgimloafpipaaGreatScanD
import Derived.Test.YtjkgimloafpipaaGreatDocB
import Derived.Test.YtjkgimloafpipaaGreatSesA
import Derived.Deep.CutBlock
import Derived.Deep.RegionHeld3
namespace Go.Proofs.YtjkgimloafpipaaGreat
set_option linter.unusedVariables false
set_option linter.unusedSimpArgs false
open Go.RowKit Go.MapKept Go.Deep

theorem doc_nats {m : TM} (h : m.right = true) : ∃ K V : Nat, m.ks = (K : Int) ∧ m.vs = (V : Int) ∧ K ≤ 64 ∧ V ≤ 256 := by
  have hr := (rightB_iff _ _ _ _ _).1 h
  exact ⟨m.ks.toNat, m.vs.toNat, by omega, by omega, by omega, by omega⟩
theorem MBox.setKs {W : World} {q : Nat} {m : TM} (h : MBox W q m) (x : Int) : MBox (W.setCell ⟨q, 2, none⟩ (.int .i64 x)) q { m with ks := x } :=
  ⟨h.row.setCell _ _, (cell_set_other _ (by omega)).trans h.c0, (cell_set_other _ (by omega)).trans h.c1, cell_set_same h.row (by omega) _, (cell_set_other _ (by omega)).trans h.c3, (cell_set_other _ (by omega)).trans h.c4⟩
theorem kept_setNew {W w : World} (h : Kept (fun _ => False) W w) {q o : Nat} {v : Value} (hq : W.heap.size ≤ q) : Kept (fun _ => False) W (w.setCell ⟨q, o, none⟩ v) :=
  h.trans (Kept.one_set w ⟨q, o, none⟩ v) (fun b hb e => by have e : b = q := e; omega)
set_option maxRecDepth 100000 in
set_option maxHeartbeats 4000000 in
theorem made11_any (kind key value most : Int) (a : Option Addr) (n c : Nat) (ss : Nat → Pr) (W : World) (hs : Puts W a n ss) (hn : n ≤ 9223372036854775807) :
    Calls Tryz.prog 13 #[.int .i64 kind, .int .i64 key, .int .i64 value, .int .i64 most, .slice a n c] W fun e w' => ∃ bt br P, e = .returned (.tuple #[.pointer (some ⟨bt, 0, none⟩), .pointer (some ⟨br, 0, none⟩)]) ∧ D2 W (smallM kind key value most) bt br (fun _ => False) P (ordP (smallM kind key value most) P) w' := by
  obtain ⟨KI, Y, VV, X, hk3, hy4, hv8, hx12, e1, e2, e3, e4⟩ := small_nums kind key value most
  have hsm := (small_right kind key value most).1
  have w1 : wrap64 (1 + (KI : Int)) = 1 + (KI : Int) := IntWalk.wrap64_in _ (by omega)
  have w2 : wrap64 (1 + (Y : Int)) = 1 + (Y : Int) := IntWalk.wrap64_in _ (by omega)
  have w3 : wrap64 (1 + (VV : Int)) = 1 + (VV : Int) := IntWalk.wrap64_in _ (by omega)
  have w4 : wrap64 (1 + (X : Int)) = 1 + (X : Int) := IntWalk.wrap64_in _ (by omega)
  obtain ⟨m, hm⟩ : ∃ m, m = smallM kind key value most := ⟨_, rfl⟩
  rw [← hm] at hsm ⊢
  have hm' : m = ⟨⟨#[109]⟩, 1 + (KI : Int), if (KI : Int) = 0 then 4 else 1 + (Y : Int), 1 + (VV : Int), 1 + (X : Int)⟩ := by
    rw [hm]
    unfold smallM
    rw [e1, e2, e3, e4]
  clear hm
  obtain ⟨D, hD⟩ : ∃ D, D = 1 + (KI : Int) := ⟨_, rfl⟩
  obtain ⟨D2', hD2⟩ : ∃ D, D = 1 + (Y : Int) := ⟨_, rfl⟩
  obtain ⟨D3, hD3⟩ : ∃ D, D = 1 + (VV : Int) := ⟨_, rfl⟩
  obtain ⟨D4, hD4⟩ : ∃ D, D = 1 + (X : Int) := ⟨_, rfl⟩
  have g1 : wrap64 (1 + (bits .and .i64 kind 255).tmod 3) = D := by rw [e1, w1, hD]
  have g2 : wrap64 (1 + bits .and .i64 key 3) = D2' := by rw [e2, w2, hD2]
  have g3 : wrap64 (1 + bits .and .i64 value 7) = D3 := by rw [e3, w3, hD3]
  have g4 : wrap64 (1 + (bits .and .i64 most 255).tmod 12) = D4 := by rw [e4, w4, hD4]
  have hz : (KI : Int) = 0 ↔ D = 1 := by omega
  rw [← hD, ← hD2, ← hD3, ← hD4] at hm'
  obtain ⟨KS, hKS⟩ : ∃ KS : Int, KS = if (KI : Int) = 0 then 4 else D2' := ⟨_, rfl⟩
  rw [← hKS] at hm'
  have HKS := Lib.hid (And.intro hKS hz)
  have HM := Lib.hid hm'
  have HSM := Lib.hid hsm
  have HS := Lib.hid hs
  clear hs hsm hm' hKS hz hD hD2 hD3 hD4 w1 w2 w3 w4 e1 e2 e3 e4 hk3 hy4 hv8 hx12
  go_enter Tryz.func13, Tryz.ntmps13
  go_upto_if 37 with fail
  rw [g1, g2, g3, g4]
  obtain ⟨q, hq⟩ : ∃ q, W.heap.size = q := ⟨_, rfl⟩
  obtain ⟨Wm, hWm⟩ : ∃ Wm, Wm = W.alloc (.cells #[.string ⟨#[109]⟩, .int .i64 D, .int .i64 D2', .int .i64 D3, .int .i64 D4] 25) := ⟨_, rfl⟩
  try rw [← hWm]
  rw [hq]
  go_cut [] from 38 to 38 (fun wc => MBox wc q m ∧ Kept (fun _ => False) W wc)
  case first =>
    have hbox : MBox Wm q ⟨⟨#[109]⟩, D, D2', D3, D4⟩ := by rw [hWm, ← hq]; exact MBox.new W ⟨⟨#[109]⟩, D, D2', D3, D4⟩ 25
    have km : Kept (fun _ => False) W Wm := by rw [hWm]; exact Kept.one_alloc _ _
    have hql : W.heap.size ≤ q := by omega
    by_cases hD1 : D = 1
    · have hb : (D == 1) = true := by simp [hD1]
      have e : m = ⟨⟨#[109]⟩, D, 4, D3, D4⟩ := by
        rw [HM.out]
        have h1 := HKS.out.1
        rw [if_pos (HKS.out.2.2 hD1)] at h1
        rw [h1]
      have hf := hbox.row.frozen 2
      have hc := hbox.c2
      simp only at hc
      have E := Lib.hid e
      have BX := Lib.hid (And.intro hbox (And.intro km hql))
      clear hbox km e hWm hD1 hq hql
      go_wp2_with fail
      go_meet
      rw [E.out]
      exact ⟨BX.out.1.setKs 4, kept_setNew BX.out.2.1 BX.out.2.2⟩
    · have hb : (D == 1) = false := by simp [hD1]
      have e : m = ⟨⟨#[109]⟩, D, D2', D3, D4⟩ := by
        rw [HM.out]
        have h1 := HKS.out.1
        rw [if_neg (fun e => hD1 (HKS.out.2.1 e))] at h1
        rw [h1]
      have E := Lib.hid e
      have BX := Lib.hid (And.intro hbox (And.intro km hql))
      clear hbox km e hWm hD1 hq hql
      go_wp2_with fail
      go_meet
      rw [E.out]
      exact ⟨BX.out.1, BX.out.2.1⟩
  case rest =>
    obtain ⟨hB, hk⟩ := hcut
    clear g1 g2 g3 g4 hWm hq
    obtain ⟨K, V, hK, hV, hK64, hV256⟩ := doc_nats HSM.out
    rw [HM.out] at hK hV
    simp only at hK hV
    subst hK
    subst hV
    have HKW := Lib.hid hk
    have HB := Lib.hid hB
    rw [HM.out] at hB
    obtain ⟨_, q0, q1, q2, q3, q4⟩ := hB
    simp only at q0 q1 q2 q3 q4
    have NEW1 := Lib.hid (show Calls Tryz.prog 33 #[.agg #[.string ⟨#[109]⟩, .int .i64 D, .int .i64 (K : Int), .int .i64 (V : Int), .int .i64 D4]] wc _ from by have h := ses_new HSM.out wc; rw [HM.out] at h; exact h)
    clear hk HKS
    go_wp2_with fail
    refine NEW1.out.mono ?_
    rintro e w3 ⟨bt, rfl, hs1, k3⟩
    rw [← HM.out] at hs1
    have S1 := Lib.hid (And.intro hs1 k3)
    have hb3 := HB.out.kept k3 (fun e => e)
    rw [HM.out] at hb3
    clear q0 q1 q2 q3 q4
    obtain ⟨_, q0, q1, q2, q3, q4⟩ := hb3
    simp only at q0 q1 q2 q3 q4
    clear hs1 k3 NEW1
    have NEW2 := Lib.hid (show Calls Tryz.prog 34 #[.agg #[.string ⟨#[109]⟩, .int .i64 D, .int .i64 (K : Int), .int .i64 (V : Int), .int .i64 D4]] w3 _ from by have h := rses_new HSM.out (by rw [HM.out]; show (⟨#[109]⟩ : ByteArray).size ≤ _; decide) w3; rw [HM.out] at h; exact h)
    go_wp2_with fail
    refine NEW2.out.mono ?_
    rintro e w4 ⟨br, rfl, hs2, k4⟩
    rw [← HM.out] at hs2
    have hD := d2_start S1.out.1 S1.out.2 hs2 k4
    have D0 := Lib.hid (show D2 wc m bt br (fun _ => False) (newP m) (ordP m (newP m)) w4 from by rw [newP_ord]; exact hD)
    clear hs2 k4 NEW2 hD q0 q1 q2 q3 q4 S1
    have FK0 := Lib.hid (fun (s : ByteArray) (hs : s.size ≤ 9223372036854775807) w => fit_any s K hs (by omega) w)
    have FV0 := Lib.hid (fun (s : ByteArray) (hs : s.size ≤ 9223372036854775807) w => fit_any s V hs (by omega) w)
    go_wp2_with fail
    go_loopw [17, 18, 19] (fun i s18 s19 wr => ∃ (k : Nat) (P : List Pr), k ≤ n ∧ k ≤ 30 ∧ i = .int .i64 k ∧ D2 wc m bt br (fun _ => False) P (ordP m P) wr) (fun i _ _ _ => n - (intOf i).toNat)
    case atStart => exact ⟨0, _, Nat.zero_le _, by omega, rfl, D0.out⟩
    case round =>
      obtain ⟨k, P, hk, hk30, rfl, hd⟩ := hrel
      clear D0
      have hb := HB.out.kept hd.back (fun e => e)
      rw [HM.out] at hb
      have c2 : wr.cell? ⟨q, 2, none⟩ = some (.int .i64 (K : Int)) := hb.c2
      have c3 : wr.cell? ⟨q, 3, none⟩ = some (.int .i64 (V : Int)) := hb.c3
      have D5 := Lib.hid hd
      clear hb hd
      by_cases hlt : k < n ∧ k < 30
      · obtain ⟨hlt, h30⟩ := hlt
        obtain ⟨b, o, rfl, hbW, hst⟩ := HS.out k hlt
        have hst2 := hst.kept hbW (HKW.out.trans D5.out.back (fun _ _ e => e)) (fun e => e)
        have d0 := hst2.c0
        have d1 := hst2.c1
        have FK := Lib.hid (FK0.out (ss k).1 hst.sk)
        have FV := Lib.hid (FV0.out (ss k).2 hst.sv)
        generalize (ss k).1 = ky at d0 FK
        generalize (ss k).2 = vl at d1 FV
        have QB := Lib.hid (show q < wr.heap.size ∧ b < wr.heap.size from ⟨Nat.lt_of_lt_of_le HB.out.row.lt D5.out.back.size, Nat.lt_of_lt_of_le hbW (HKW.out.trans D5.out.back (fun _ _ e => e)).size⟩)
        have FK1 := Lib.hid (show ∀ W', Kept (fun _ => False) wr W' → Calls Tryz.prog 22 #[.string ky, .int .i64 (K : Int)] W' fun e w' => e = .returned (.string (fitB ky K)) ∧ (w'.cell? ⟨q, 2, none⟩ = some (.int .i64 (K : Int)) ∧ w'.cell? ⟨b, o + k * 2, none⟩ = some (.string ky)) ∧ Kept (fun _ => False) wr w' from fun W' kk => by
          refine (FK.out W').mono ?_
          rintro e w' ⟨rfl, k'⟩
          have k2 := kk.trans k' (fun _ _ e => e)
          exact ⟨rfl, ⟨(k2.cell (p := ⟨q, 2, none⟩) QB.out.1 (fun e => e)).trans c2, (k2.cell (p := ⟨b, o + k * 2, none⟩) QB.out.2 (fun e => e)).trans d0⟩, k2⟩)
        clear hst hst2
        go_wp2_with fail
        go_region_held3 (fun w' => w'.cell? ⟨q, 2, none⟩ = some (.int .i64 (K : Int)) ∧ w'.cell? ⟨b, o + k * 2, none⟩ = some (.string ky)) (go_keep) ((go_at_call 22; refine (FK1.out _ (by exact (Kept.refl _ _).twin ⟨rfl, rfl, rfl, rfl⟩)).mono ?_; rintro e w5 ⟨rfl, hcc, k5⟩; have K5 := Lib.hid k5; clear k5))
        all_goals
          have FV1 := Lib.hid (show ∀ W', Kept (fun _ => False) w5 W' → Calls Tryz.prog 22 #[.string vl, .int .i64 (V : Int)] W' fun e w' => e = .returned (.string (fitB vl V)) ∧ (w'.cell? ⟨q, 3, none⟩ = some (.int .i64 (V : Int)) ∧ w'.cell? ⟨b, o + k * 2 + 1, none⟩ = some (.string vl)) ∧ Kept (fun _ => False) w5 w' from fun W' kk => by
            refine (FV.out W').mono ?_
            rintro e w' ⟨rfl, k'⟩
            have k2 := kk.trans k' (fun _ _ e => e)
            have k3 := K5.out.trans k2 (fun _ _ e => e)
            exact ⟨rfl, ⟨(k3.cell (p := ⟨q, 3, none⟩) QB.out.1 (fun e => e)).trans c3, (k3.cell (p := ⟨b, o + k * 2 + 1, none⟩) QB.out.2 (fun e => e)).trans d1⟩, k2⟩)
          have d3 : w5.cell? ⟨q, 3, none⟩ = some (.int .i64 (V : Int)) := (K5.out.cell (p := ⟨q, 3, none⟩) QB.out.1 (fun e => e)).trans c3
          have d4 : w5.cell? ⟨b, o + k * 2 + 1, none⟩ = some (.string vl) := (K5.out.cell (p := ⟨b, o + k * 2 + 1, none⟩) QB.out.2 (fun e => e)).trans d1
          clear c2 c3 d0 d1 hcc
          go_wp2_with fail
          go_region_held3 (fun w' => w'.cell? ⟨q, 3, none⟩ = some (.int .i64 (V : Int)) ∧ w'.cell? ⟨b, o + k * 2 + 1, none⟩ = some (.string vl)) (go_keep) ((go_at_call 22; refine (FV1.out _ (by exact (Kept.refl _ _).twin ⟨rfl, rfl, rfl, rfl⟩)).mono ?_; rintro e w6 ⟨rfl, hcc, k6⟩; have K6 := Lib.hid k6; clear k6))
          all_goals
            obtain ⟨x1, w7, hcv1, kq1, bq1, z1⟩ := bytes_made w6 (fitB ky K)
            obtain ⟨x2, w8, hcv2, kq2, bq2, z2⟩ := bytes_made w7 (fitB vl V)
            have K68 := Lib.hid (kq1.trans kq2 (fun _ _ e => e))
            have BQ := Lib.hid (And.intro (bq1.kept kq2 (fun _ _ _ e => e)) bq2)
            have Z := Lib.hid (And.intro z1 z2)
            have K56 := Lib.hid (K5.out.trans K6.out (fun _ _ e => e))
            clear d3 d4 hcc kq1 kq2 bq1 bq2 z1 z2
            go_wp2_with fail
            refine (d2_upd1 (c := x1) (vc := x2) (fl := 0) D5.out (fun b e => e.elim) (K56.out.trans K68.out (fun _ _ e => e)) BQ.out.1 BQ.out.2 (fun b o e => .inl (by cases e; have := K56.out.size; have := Z.out.1; omega))).mono ?_
            rintro e w9 ⟨rfl, d9, k9⟩
            have D9 := Lib.hid d9
            clear d9 k9 hcv1 hcv2
            go_wp2_with fail
            refine (d2_upd2 (k := fitB ky K) (v := fitB vl V) (fl := 0) D9.out (fun b e => e.elim) (Kept.refl _ _) (by rw [fitB_size]; omega) (by rw [fitB_size]; omega)).mono ?_
            rintro e w10 ⟨rfl, d10, k10⟩
            have D10 := Lib.hid d10
            clear d10 k10
            go_wp2_with fail
            go_roundw
            case rel =>
              refine ⟨k + 1, updP m (fitB ky K) (fitB vl V) 0 P, by omega, by omega, by go_num, ?_⟩
              have h := D10.out
              rw [← ordP_upd D5.out.nodup] at h
              exact h
            case measure => simp [intOf]; omega
      · have hsp : (k < n ∧ k = 30) ∨ ¬ k < n := by omega
        have FIN := Lib.hid (D5.out.low HKW.out)
        clear c2 c3
        rcases hsp with ⟨h1, h2⟩ | h1
        all_goals
          go_wp2_with fail
          go_ret2
          exact ⟨bt, br, P, rfl, FIN.out⟩
end Go.Proofs.YtjkgimloafpipaaGreat
