/- TableKinds, walked. -/
import Derived.Test.YtalahbmahpgkeaaTblF
import Derived.Test.YtalahbmahpgkeaaTwoT
import Derived.Test.YtalahbmahpgkeaaGenE
import Derived.Test.YtalahbmahpgkeaaTblE
import Derived.Test.YtalahbmahpgkeaaGenD
import Derived.Deep.CutBlock
import Derived.Deep.RegionHeld3
namespace Go.Proofs.Ytalahbmahpgkeaa
set_option linter.unusedVariables false
set_option linter.unusedSimpArgs false
open Go.RowKit Go.MapKept

theorem kinds_map (key value : Int) : ∃ K V N : Nat, 1 ≤ K ∧ K ≤ 4 ∧ 1 ≤ V ∧ V ≤ 8 ∧ smallM 1 key value 0 = ⟨⟨#[109]⟩, 2, K, V, N⟩ := by
  obtain ⟨K, Y, V, X, h1, h2, h3, h4, e1, e2, e3, e4⟩ := small_nums 1 key value 0
  refine ⟨1 + Y, 1 + V, 1 + X, by omega, by omega, by omega, by omega, ?_⟩
  have e1 : (bits .and .i64 1 255).tmod 3 = 1 := by decide
  unfold smallM
  rw [e1, e2, e3, e4]
  rw [if_neg (by decide)]
  simp only [TM.mk.injEq, true_and]
  refine ⟨rfl, by omega, by omega, by omega⟩
theorem kinds_right (kd : Int) (hk : kd = 2 ∨ kd = 3) (K V : Nat) (h1 : 1 ≤ K) (h2 : K ≤ 4) (h3 : 1 ≤ V) (h4 : V ≤ 8) : (⟨⟨#[109]⟩, kd, K, V, 100⟩ : TM).right = true := by
  show rightB ⟨#[109]⟩ kd (K : Int) (V : Int) 100 = true
  exact (rightB_iff _ _ _ _ _).2 ⟨by decide, by omega, by omega, by omega, by omega, fun e => by omega, by omega, by omega, by omega, by omega⟩
/-- A step, copied into a block of its own. -/
theorem st_box {W w : World} {b o : Nat} {s : St7} (h : StAt W b o s) (t : TypeId) : StAt (w.alloc (.cells #[.int .i64 s.kd, .string s.k, .string s.v, .int .i64 s.fl, .bool s.wr, .bool s.rw, .bool s.kp] t)) w.heap.size 0 s := by
  have := heap_alloc_new w (.cells #[.int .i64 s.kd, .string s.k, .string s.v, .int .i64 s.fl, .bool s.wr, .bool s.rw, .bool s.kp] t)
  constructor
  all_goals first
    | exact h.sk
    | exact h.sv
    | (simp only [World.cell?, this]; rfl)

/-- While the first table is ranged over: the other one, and the box that holds it. -/
def KindsIn (n : TM) (bu ub : Nat) (P : List Pr) (F2 : Nat → Prop) (U : Nat → Prop) (W : World) : Prop :=
  ∃ Q, Ses n bu Q F2 W ∧ Q.Perm P ∧ Box W ub (.pointer (some ⟨bu, 0, none⟩)) ∧ ∀ b, F2 b ∨ b = ub → U b
theorem KindsIn.kept {n : TM} {bu ub : Nat} {P : List Pr} {F2 U : Nat → Prop} {W W' : World} (h : KindsIn n bu ub P F2 U W) (k : Kept (fun b => ¬ U b) W W') : KindsIn n bu ub P F2 U W' := by
  obtain ⟨Q, h1, h2, h3, h4⟩ := h
  exact ⟨Q, h1.kept k (fun b hb e => e (h4 b (.inl hb))), h2, h3.kept k (fun e => e (h4 ub (.inr rfl))), h4⟩

set_option maxRecDepth 100000 in
set_option maxHeartbeats 4000000 in
theorem tableKinds_any (key value : Int) (a : Option Addr) (n c : Nat) (ss : Nat → St7) (W : World) (hs : Steps7 W a n ss) (hn : n ≤ 9223372036854775807) :
    Calls Try.prog 11 #[.int .i64 key, .int .i64 value, .slice a n c] W fun e w' => e = .returned (.bool true) ∧ Kept (fun _ => False) W w' := by
  obtain ⟨K, V, N, hK1, hK4, hV1, hV8, hM⟩ := kinds_map key value
  have hsa := small_any 1 key value 0
  rw [hM] at hsa
  have HRm := Lib.hid (kinds_right 2 (.inl rfl) K V hK1 hK4 hV1 hV8)
  have HRn := Lib.hid (kinds_right 3 (.inr rfl) K V hK1 hK4 hV1 hV8)
  have HSA := Lib.hid hsa
  have HS := Lib.hid hs
  clear hsa hM hs
  simp only [TM.v] at HSA
  have FK := Lib.hid (fun (s : ByteArray) (hs : s.size ≤ 9223372036854775807) w => fit_any s K hs (by omega) w)
  have FV := Lib.hid (fun (s : ByteArray) (hs : s.size ≤ 9223372036854775807) w => fit_any s V hs (by omega) w)
  refine callsIn_WR (ro := none) (n := 0).1 (callsIn_of_wp_marks Try.func11 rfl trivial ?_ rfl)
  simp only [Try.ntmps11, List.size_toArray, List.length_cons, List.length_nil, Nat.reduceAdd, Nat.reduceSub, Array.replicate_succ, Array.replicate_zero, List.push_toArray, List.append_toArray, List.nil_append, List.cons_append]
  gi_wp2_with fail
  obtain ⟨W1, hW1⟩ : ∃ W1, W1 = W.alloc (.cells #[.bool false] 4) := ⟨_, rfl⟩
  have RB := Lib.hid (show Box W1 W.heap.size (.bool false) from by rw [hW1]; exact Box.new W _ _)
  have K0 := Lib.hid (show Kept (fun _ => False) W W1 from by rw [hW1]; exact Kept.one_alloc W _)
  rw [← hW1]
  clear hW1
  refine callsIn_WR.2 ((shown_any W1).mono ?_)
  rintro e w1 ⟨rfl, k1⟩
  have K1 := Lib.hid k1
  clear k1
  gi_wp2_with fail
  refine callsIn_WR.2 ((HSA.out w1).mono ?_)
  rintro e w2 ⟨rfl, k2⟩
  have K2 := Lib.hid (K1.out.trans k2 (fun _ _ e => e))
  clear k2
  gi_wp2_with fail
  obtain ⟨q, hq⟩ : ∃ q, q = w2.heap.size := ⟨_, rfl⟩
  obtain ⟨M, hM⟩ : ∃ M : TM, M = ⟨⟨#[109]⟩, 2, K, V, 100⟩ := ⟨_, rfl⟩
  obtain ⟨N2, hN2⟩ : ∃ N2 : TM, N2 = ⟨⟨#[109]⟩, 3, K, V, 100⟩ := ⟨_, rfl⟩
  obtain ⟨W0, hW0⟩ : ∃ W0, W0 = (w2.alloc (.cells #[.string ⟨#[109]⟩, .int .i64 2, .int .i64 (K : Int), .int .i64 (V : Int), .int .i64 100] 23)).alloc (.cells #[.string ⟨#[109]⟩, .int .i64 3, .int .i64 (K : Int), .int .i64 (V : Int), .int .i64 100] 23) := ⟨_, rfl⟩
  have HB := Lib.hid (show MBox W0 q M from by
    rw [hW0, hM, hq]
    exact (MBox.new w2 ⟨⟨#[109]⟩, 2, K, V, 100⟩ 23).kept (Kept.one_alloc _ _) (fun e => e))
  have HB2 := Lib.hid (show MBox W0 (q + 1) N2 from by
    rw [hW0, hN2, hq]
    have := MBox.new (w2.alloc (.cells #[.string ⟨#[109]⟩, .int .i64 2, .int .i64 (K : Int), .int .i64 (V : Int), .int .i64 100] 23)) ⟨⟨#[109]⟩, 3, K, V, 100⟩ 23
    rwa [World.size_alloc] at this)
  have KW := Lib.hid (show Kept (fun _ => False) W1 W0 from K2.out.trans (by rw [hW0]; exact ((Kept.refl _ w2).alloc _).alloc _) (fun _ _ e => e))
  rw [← hW0, ← hq]
  have NEW1 := Lib.hid (show Calls Try.prog 14 #[.agg #[.string ⟨#[109]⟩, .int .i64 2, .int .i64 (K : Int), .int .i64 (V : Int), .int .i64 100]] W0 _ from by have h := ses_new HRm.out W0; exact h)
  have NEW2 := Lib.hid (show ∀ w, Calls Try.prog 14 #[.agg #[.string ⟨#[109]⟩, .int .i64 3, .int .i64 (K : Int), .int .i64 (V : Int), .int .i64 100]] w _ from fun w => by have h := ses_new HRn.out w; exact h)
  clear K1 K2 hW0 hq
  refine callsIn_WR.2 (NEW1.out.mono ?_)
  rintro e w4 ⟨bt, rfl, hs1, k4⟩
  rw [← hM] at hs1
  rw [show newP M = [] from by unfold newP; rw [if_neg (by rw [hM]; show ¬ (2 : Int) = 1; decide)]] at hs1
  have S1 := Lib.hid (And.intro hs1 k4)
  obtain ⟨_, c0, c1, c2, c3, c4⟩ := HB2.out.kept k4 (fun e => e)
  rw [hN2] at c0 c1 c2 c3 c4
  simp only at c0 c1 c2 c3 c4
  clear hs1 k4 NEW1
  gi_wp2_with fail
  refine callsIn_WR.2 ((NEW2.out w4).mono ?_)
  rintro e w5 ⟨bu, rfl, hs2, k5⟩
  rw [← hN2] at hs2
  rw [show newP N2 = [] from by unfold newP; rw [if_neg (by rw [hN2]; show ¬ (3 : Int) = 1; decide)]] at hs2
  have S2 := Lib.hid (And.intro hs2 k5)
  clear hs2 k5 NEW2 c0 c1 c2 c3 c4
  gi_wp2_with fail
  have KST := Lib.hid (kst_start S1.out.1 S1.out.2 S2.out.1 S2.out.2 25)
  obtain ⟨ub, hub⟩ : ∃ ub, w5.heap.size = ub := ⟨_, rfl⟩
  obtain ⟨w6, hw6⟩ : ∃ w6, w5.alloc (.cells #[.pointer (some ⟨bu, 0, none⟩)] 25) = w6 := ⟨_, rfl⟩
  have KS0 := Lib.hid (show ∃ F1 F2, KSt W0 ub M N2 bt bu [] [] F1 F2 w6 from ⟨_, _, by rw [← hub, ← hw6]; exact KST.out⟩)
  rw [hw6, hub]
  clear KST S1 S2 hub hw6
  gi_loopw [14] (fun i wr => ∃ (k : Nat) (P1 P2 : List Pr) (F1 F2 : Nat → Prop), k ≤ n ∧ k ≤ 40 ∧ i = .int .i64 k ∧ KSt W0 ub M N2 bt bu P1 P2 F1 F2 wr ∧ P1.Perm P2 ∧ P1.length ≤ k) (fun i _ => n - (intOf i).toNat)
  case atStart =>
    obtain ⟨F1, F2, h⟩ := KS0.out
    exact ⟨0, [], [], F1, F2, Nat.zero_le _, by omega, rfl, h, .refl _, Nat.le_refl _⟩
  case round =>
    obtain ⟨k, P1, P2, F1, F2, hk, hk40, rfl, hst, hperm, hlen⟩ := hrel
    clear KS0
    have ST := Lib.hid (And.intro hst (And.intro hperm hlen))
    clear hst hperm hlen
    by_cases hlt : k < n ∧ k < 40
    · obtain ⟨hlt, h40⟩ := hlt
      obtain ⟨b, o, rfl, hbW, hst⟩ := HS.out k hlt
      have hst2 := hst.kept hbW ((K0.out.trans KW.out (fun _ _ e => e)).trans ST.out.1.back (fun _ _ e => e)) (fun e => e)
      obtain ⟨s, hs⟩ : ∃ s, ss k = s := ⟨_, rfl⟩
      rw [hs] at hst2
      have s0 := hst2.c0
      have s1 := hst2.c1
      have s2 := hst2.c2
      have s3 := hst2.c3
      have s4 := hst2.c4
      have s5 := hst2.c5
      have s6 := hst2.c6
      have STA := Lib.hid hst2
      clear hst hst2 hbW hs
      have hb8 := HB.out.kept ST.out.1.back (fun e => e)
      have c2 : wr.cell? ⟨q, 2, none⟩ = some (.int .i64 (K : Int)) := by have := hb8.c2; rw [hM] at this; exact this
      have c3 : wr.cell? ⟨q, 3, none⟩ = some (.int .i64 (V : Int)) := by have := hb8.c3; rw [hM] at this; exact this
      have hqw := hb8.row.lt
      clear hb8
      gi_wp2_with fail
      obtain ⟨wS, hwS⟩ : ∃ wS, wS = wr.alloc (.cells #[.int .i64 s.kd, .string s.k, .string s.v, .int .i64 s.fl, .bool s.wr, .bool s.rw, .bool s.kp] 56) := ⟨_, rfl⟩
      have hstb : StAt wS wr.heap.size 0 s := by rw [hwS]; exact st_box STA.out _
      have kS : Kept (fun _ => False) wr wS := by rw [hwS]; exact Kept.one_alloc _ _
      have zS : wS.heap.size = wr.heap.size + 1 := by rw [hwS]; simp
      rw [← hwS]
      obtain ⟨sb, hsb⟩ : ∃ sb, wr.heap.size = sb := ⟨_, rfl⟩
      rw [hsb] at hstb zS ⊢
      clear hwS s0 s1 s2 s3 s4 s5 s6
      refine callsIn_WR.2 ((FK.out s.k STA.out.sk wS).mono ?_)
      rintro e w7 ⟨rfl, k7⟩
      obtain ⟨cc, w8, hcv, k8, b8, z8⟩ := bytes_made w7 (fitB s.k K)
      have kS8 := k7.trans k8 (fun _ _ e => e)
      have hst8 := hstb.kept (by omega) kS8 (fun e => e)
      have s2 : w8.cell? ⟨sb, 2, none⟩ = some (.string s.v) := hst8.c2
      have c3' : w8.cell? ⟨q, 3, none⟩ = some (.int .i64 (V : Int)) := ((kS.trans kS8 (fun _ _ e => e)).cell (p := ⟨q, 3, none⟩) hqw (fun e => e)).trans c3
      have H8 := Lib.hid (And.intro hst8 (And.intro (kS.trans kS8 (fun _ _ e => e)) (And.intro b8 (And.intro z8 (And.intro zS (And.intro hsb k7.size))))))
      clear hst8 kS kS8 b8 z8 zS hsb k7 k8 hstb c2 c3
      gi_wp2_with fail
      refine callsIn_WR.2 ((FV.out s.v STA.out.sv w8).mono ?_)
      rintro e w9 ⟨rfl, k9⟩
      obtain ⟨cc2, w10, hcv2, k10, b10, z10⟩ := bytes_made w9 (fitB s.v V)
      obtain ⟨kx, hkx⟩ : ∃ kx, w7.heap.size = kx := ⟨_, rfl⟩
      obtain ⟨vx, hvx⟩ : ∃ vx, w9.heap.size = vx := ⟨_, rfl⟩
      rw [hkx]
      rw [hvx] at hcv2 b10
      obtain ⟨hst8, k08, b8, z8, zS, hsb, z7⟩ := H8.out
      rw [hkx] at b8 z7
      have k810 := k9.trans k10 (fun _ _ e => e)
      have kall := k08.trans k810 (fun _ _ e => e)
      have hst10 := hst8.kept (by omega) k810 (fun e => e)
      have PS := Lib.hid (show PSt W0 ub M N2 bt bu sb kx vx s.fl (fitB s.k K) (fitB s.v V) P1 P2 w10 from by
        refine ⟨⟨F1, F2, ST.out.1.keep kall, fun b hb => ?_⟩, b8.kept k810 (fun _ _ _ e => e), b10, hst10.c3, fun b hb => ?_⟩
        · have h1 : wr.heap.size ≤ b := by
            have := k9.size
            omega
          exact ⟨fun e => by have := ST.out.1.at' b (.inl e); omega, fun e => by have := ST.out.1.at' b (.inr e); omega⟩
        · have := k9.size
          have := k10.size
          omega)
      have s0 : w10.cell? ⟨sb, 0, none⟩ = some (.int .i64 s.kd) := hst10.c0
      have hsz1 : (fitB s.k K).size = K := fitB_size _ _
      have hsz2 : (fitB s.v V).size = V := fitB_size _ _
      clear hkx hvx hst8 k08 b8 z8 zS hsb z7 k9 k10 b10 z10 k810 kall hst10 s2 c3'
      obtain ⟨kk, hkk⟩ : ∃ kk, fitB s.k K = kk := ⟨_, rfl⟩
      obtain ⟨vv, hvv⟩ : ∃ vv, fitB s.v V = vv := ⟨_, rfl⟩
      rw [hkk] at PS
      rw [hvv] at PS
      rw [hvv] at hcv2
      rw [hkk, hvv]
      clear hkk hvv hsz1 hsz2 hcv
      have hnd := ST.out.1.a.nodup
      have hlen9 : (P1.length : Int) < M.mx := by rw [hM]; show (P1.length : Int) < 100; have := ST.out.2.2; omega
      have a1 : M.ks = N2.ks := by rw [hM, hN2]
      have a2 : M.vs = N2.vs := by rw [hM, hN2]
      have a3 : M.kd = 2 := by rw [hM]
      have a4 : N2.kd = 3 := by rw [hN2]
      have a5 : M.mx = N2.mx := by rw [hM, hN2]
      have LAW := Lib.hid (And.intro (kinds_code (k := kk) (v := vv) (fl := s.fl) ST.out.2.1 hnd a1 a2 a3 a4 hlen9)
        (And.intro (kinds_upd (k := kk) (v := vv) (fl := s.fl) ST.out.2.1 hnd a1 a2 a3 a4 hlen9 a5)
        (And.intro (kinds_del (m := M) (n := N2) (k := kk) ST.out.2.1 hnd a1 a3 a4)
        (And.intro (perm_look ST.out.2.1 hnd kk) (And.intro (useP_perm hnd M kk) (useP_perm (P := P2) (by exact ((ST.out.2.1.map _).nodup_iff).1 hnd) N2 kk))))))
      clear hnd hlen9 a1 a2 a3 a4 a5
      have hkd : s.kd = 1 ∨ s.kd = 2 ∨ s.kd = 3 ∨ ((s.kd == 1) = false ∧ (s.kd == 2) = false ∧ (s.kd == 3) = false) := by
        by_cases h1 : s.kd = 1
        · exact .inl h1
        by_cases h2 : s.kd = 2
        · exact .inr (.inl h2)
        by_cases h3 : s.kd = 3
        · exact .inr (.inr (.inl h3))
        · exact .inr (.inr (.inr ⟨by simpa using h1, by simpa using h2, by simpa using h3⟩))
      have hcu := PS.out.box
      have hc3 := PS.out.c3
      rcases hkd with h | h | h | ⟨h1, h2, h3⟩
      case' inr.inr.inr =>
        gi_wp2_with fail
        have TAIL := Lib.hid (show ∃ P1' P2', PSt W0 ub M N2 bt bu sb kx vx s.fl kk vv P1' P2' w10 ∧ P1'.Perm P2' ∧ P1'.length ≤ k + 1 from ⟨P1, P2, PS.out, ST.out.2.1, by have := ST.out.2.2; omega⟩)
        obtain ⟨wq, hwq⟩ : ∃ wq, wq = w10 := ⟨_, rfl⟩
        rw [← hwq] at TAIL ⊢
        clear hwq h1 h2 h3 hc3
      case' inr.inr.inl =>
        rw [h] at s0
        obtain ⟨C, hC1, hC2⟩ : ∃ C, delCP M kk P1 = C ∧ delCP N2 kk P2 = C := ⟨_, rfl, LAW.out.2.2.1.1.symm⟩
        have DEL1 : ∀ Q w0 w1, PSt W0 ub M N2 bt bu sb kx vx s.fl kk vv P1 Q w0 → Kept (fun _ => False) w0 w1 → Calls Try.prog 23 #[.pointer (some ⟨bt, 0, none⟩), .slice (some ⟨kx, 0, none⟩) kk.size cc] w1 fun e w' => e = .returned (.int .i64 C) ∧ w'.cell? ⟨ub, 0, none⟩ = some (.pointer (some ⟨bu, 0, none⟩)) ∧ PSt W0 ub M N2 bt bu sb kx vx s.fl kk vv (delP M kk P1) Q w' := by
          intro Q w0 w1 h q; rw [← hC1]; exact pst_del1 h q
        have DEL2 : ∀ Q w0 w1, PSt W0 ub M N2 bt bu sb kx vx s.fl kk vv Q P2 w0 → Kept (fun _ => False) w0 w1 → Calls Try.prog 23 #[.pointer (some ⟨bu, 0, none⟩), .slice (some ⟨kx, 0, none⟩) kk.size cc] w1 fun e w' => e = .returned (.int .i64 C) ∧ w'.cell? ⟨ub, 0, none⟩ = some (.pointer (some ⟨bu, 0, none⟩)) ∧ PSt W0 ub M N2 bt bu sb kx vx s.fl kk vv Q (delP N2 kk P2) w' := by
          intro Q w0 w1 h q; rw [← hC2]; exact pst_del2 h q
        have D1 := Lib.hid DEL1
        have D2 := Lib.hid DEL2
        clear DEL1 DEL2 hC1 hC2 hc3
        gi_wp2_with fail
        refine (wpIn_wide (n := 0)).2 ?_
        go_region_held3 (fun w' => w'.cell? ⟨ub, 0, none⟩ = some (.pointer (some ⟨bu, 0, none⟩))) (go_keep) (first
          | (go_at_call 23; (first | (with_reducible refine Calls.mono (D1.out _ _ _ HX.out ?_) ?_) | (with_reducible refine Calls.mono (D2.out _ _ _ HX.out ?_) ?_)); (focus (exact (Kept.refl _ _).twin ⟨rfl, rfl, rfl, rfl⟩)); rintro e wq ⟨rfl, hc13, h13⟩; have HY := Lib.hid h13; clear h13)
          | (go_at_call 23; (first | (with_reducible refine Calls.mono (D1.out _ _ _ PS.out ?_) ?_) | (with_reducible refine Calls.mono (D2.out _ _ _ PS.out ?_) ?_)); (focus (exact (Kept.refl _ _).twin ⟨rfl, rfl, rfl, rfl⟩)); rintro e w12 ⟨rfl, hc12, h12⟩; have HX := Lib.hid h12; clear h12))
        all_goals
          clear hc12 hc13
          gi_wp2_with fail
          have TAIL := Lib.hid (show ∃ P1' P2', PSt W0 ub M N2 bt bu sb kx vx s.fl kk vv P1' P2' wq ∧ P1'.Perm P2' ∧ P1'.length ≤ k + 1 from ⟨_, _, HY.out, LAW.out.2.2.1.2.1, by have := ST.out.2.2; have := LAW.out.2.2.1.2.2; omega⟩)
          clear HX HY D1 D2
      case' inr.inl =>
        rw [h] at s0
        obtain ⟨C, hC1, hC2⟩ : ∃ C, codeP M kk vv s.fl P1 = C ∧ codeP N2 kk vv s.fl P2 = C := ⟨_, rfl, LAW.out.1.symm⟩
        have UPD1 : ∀ Q w0 w1, PSt W0 ub M N2 bt bu sb kx vx s.fl kk vv P1 Q w0 → Kept (fun _ => False) w0 w1 → Calls Try.prog 20 #[.pointer (some ⟨bt, 0, none⟩), .slice (some ⟨kx, 0, none⟩) kk.size cc, .slice (some ⟨vx, 0, none⟩) vv.size cc2, .int .i64 s.fl] w1 fun e w' => e = .returned (.int .i64 C) ∧ (w'.cell? ⟨sb, 3, none⟩ = some (.int .i64 s.fl) ∧ w'.cell? ⟨ub, 0, none⟩ = some (.pointer (some ⟨bu, 0, none⟩))) ∧ PSt W0 ub M N2 bt bu sb kx vx s.fl kk vv (updP M kk vv s.fl P1) Q w' := by
          intro Q w0 w1 h q; rw [← hC1]; exact pst_upd1 h q
        have UPD2 : ∀ Q w0 w1, PSt W0 ub M N2 bt bu sb kx vx s.fl kk vv Q P2 w0 → Kept (fun _ => False) w0 w1 → Calls Try.prog 20 #[.pointer (some ⟨bu, 0, none⟩), .slice (some ⟨kx, 0, none⟩) kk.size cc, .slice (some ⟨vx, 0, none⟩) vv.size cc2, .int .i64 s.fl] w1 fun e w' => e = .returned (.int .i64 C) ∧ (w'.cell? ⟨sb, 3, none⟩ = some (.int .i64 s.fl) ∧ w'.cell? ⟨ub, 0, none⟩ = some (.pointer (some ⟨bu, 0, none⟩))) ∧ PSt W0 ub M N2 bt bu sb kx vx s.fl kk vv Q (updP N2 kk vv s.fl P2) w' := by
          intro Q w0 w1 h q; rw [← hC2]; exact pst_upd2 h q
        have U1 := Lib.hid UPD1
        have U2 := Lib.hid UPD2
        clear UPD1 UPD2 hC1 hC2
        gi_wp2_with fail
        refine (wpIn_wide (n := 0)).2 ?_
        go_region_held3 (fun w' => w'.cell? ⟨sb, 3, none⟩ = some (.int .i64 s.fl) ∧ w'.cell? ⟨ub, 0, none⟩ = some (.pointer (some ⟨bu, 0, none⟩))) (go_keep) (first
          | (go_at_call 20; (first | (with_reducible refine Calls.mono (U1.out _ _ _ HX.out ?_) ?_) | (with_reducible refine Calls.mono (U2.out _ _ _ HX.out ?_) ?_)); (focus (exact (Kept.refl _ _).twin ⟨rfl, rfl, rfl, rfl⟩)); rintro e wq ⟨rfl, ⟨hc13, hd13⟩, h13⟩; have HY := Lib.hid h13; clear h13)
          | (go_at_call 20; (first | (with_reducible refine Calls.mono (U1.out _ _ _ PS.out ?_) ?_) | (with_reducible refine Calls.mono (U2.out _ _ _ PS.out ?_) ?_)); (focus (exact (Kept.refl _ _).twin ⟨rfl, rfl, rfl, rfl⟩)); rintro e w12 ⟨rfl, ⟨hc12, hd12⟩, h12⟩; have HX := Lib.hid h12; clear h12))
        all_goals
          clear hc12 hc13 hd12 hd13
          gi_wp2_with fail
          have TAIL := Lib.hid (show ∃ P1' P2', PSt W0 ub M N2 bt bu sb kx vx s.fl kk vv P1' P2' wq ∧ P1'.Perm P2' ∧ P1'.length ≤ k + 1 from ⟨_, _, HY.out, LAW.out.2.1.1, by have := ST.out.2.2; have := LAW.out.2.1.2; omega⟩)
          clear HX HY U1 U2 hc3
      case' inl =>
        rw [h] at s0
        clear hc3
        gi_wp2_with fail
        refine callsIn_WR.2 ((pst_look1 PS.out (.refl _ _)).mono ?_)
        rintro e w11 ⟨x, rfl, hps1, hlook2⟩
        have L2 := Lib.hid hlook2
        have hcu1 := hps1.box
        clear hps1 hlook2 s0 hcu
        gi_wp2_with fail
        refine callsIn_WR.2 ((L2.out w11 (.refl _ _)).mono ?_)
        rintro e w12 ⟨y, rfl, hps2, ⟨Fx, hx⟩, Fy, hy⟩
        rw [← LAW.out.2.2.2.1] at hy ⊢
        have PS2 := Lib.hid hps2
        clear hps2 L2 hcu1
        obtain ⟨o, ho⟩ : ∃ o, lookP kk P1 = o := ⟨_, rfl⟩
        rw [ho] at hx hy ⊢
        obtain ⟨w5, hw5, t5⟩ : ∃ w5, w5 = ({ w12 with drawn := w12.drawn + 1 } : World) ∧ Twin w5 w12 := ⟨_, rfl, rfl, rfl, rfl, rfl⟩
        have T5 := Lib.hid t5
        rcases o with _ | d
        case' none =>
          obtain rfl := hx.none' rfl
          obtain rfl := hy.none' rfl
          clear hx hy
          simp only [Option.isSome_none]
          gi_wp2_with fail
          refine wpW_region_still (by kernel_rfl) (by kernel_rfl) ?_
          rw [← hw5]
          clear hw5 t5
          iterate 7 (with_reducible refine wpStill_want (by kernel_rfl) (fun K hK => ?_); go_simp; with_reducible refine hK _ ?_; clear hK K)
          iterate 22 (with_reducible refine wpStill_pass (by kernel_rfl) (fun K hK => ?_); go_simp; with_reducible refine hK _ ?_; clear hK K)
          iterate 3 (with_reducible refine wpStill_want (by kernel_rfl) (fun K hK => ?_); go_simp; with_reducible refine hK _ ?_; clear hK K)
          refine wpStill_nil ?_
        case' some =>
          obtain ⟨bx, ex, cx, rfl, x0, x1, xB, -⟩ := hx.some' d rfl
          obtain ⟨bz, ez, cz, rfl, y0, y1, yB, -⟩ := hy.some' d rfl
          have xc := (xB.twin t5).conv (c := cx)
          have yc := (yB.twin t5).conv (c := cz)
          have x0' : w5.cell? ⟨bx, 0, none⟩ = some (.string kk) := by obtain ⟨_, rfl⟩ := t5.eq; exact x0
          have x1' : w5.cell? ⟨bx, 1, none⟩ = some (.slice (some ⟨ex, 0, none⟩) d.size cx) := by obtain ⟨_, rfl⟩ := t5.eq; exact x1
          have y0' : w5.cell? ⟨bz, 0, none⟩ = some (.string kk) := by obtain ⟨_, rfl⟩ := t5.eq; exact y0
          have y1' : w5.cell? ⟨bz, 1, none⟩ = some (.slice (some ⟨ez, 0, none⟩) d.size cz) := by obtain ⟨_, rfl⟩ := t5.eq; exact y1
          clear hx hy x0 x1 y0 y1 xB yB
          simp only [Option.isSome_some]
          gi_wp2_with fail
          refine wpW_region_still (by kernel_rfl) (by kernel_rfl) ?_
          rw [← hw5]
          clear hw5 t5
          iterate 32 (with_reducible refine wpStill_want (by kernel_rfl) (fun K hK => ?_); go_simp; with_reducible refine hK _ ?_; clear hK K)
          refine wpStill_nil ?_
        all_goals
          gi_wp2_with fail
          obtain ⟨wq, hwq⟩ : ∃ wq, wq = w5 := ⟨_, rfl⟩
          rw [← hwq] at T5 ⊢
          have TAIL := Lib.hid (show ∃ P1' P2', PSt W0 ub M N2 bt bu sb kx vx s.fl kk vv P1' P2' wq ∧ P1'.Perm P2' ∧ P1'.length ≤ k + 1 from ⟨_, _, PS2.out.keep ((Kept.refl _ _).twin T5.out), LAW.out.2.2.2.2.1.trans (ST.out.2.1.trans LAW.out.2.2.2.2.2.symm), by have := LAW.out.2.2.2.2.1.length_eq; have := ST.out.2.2; omega⟩)
          clear PS2 T5 hwq
      all_goals
        obtain ⟨P1', P2', hT, hp', hl'⟩ := TAIL.out
        have TL := Lib.hid (And.intro hT (And.intro hp' hl'))
        have hcq := hT.box
        obtain ⟨L, hL1, hL2⟩ : ∃ L : Nat, P1'.length = L ∧ P2'.length = L := ⟨_, rfl, hp'.length_eq.symm⟩
        have LEN1 : ∀ w1, Kept (fun _ => False) wq w1 → Calls Try.prog 17 #[.pointer (some ⟨bt, 0, none⟩)] w1 fun e w' => e = .returned (.int .i64 L) ∧ w'.cell? ⟨ub, 0, none⟩ = some (.pointer (some ⟨bu, 0, none⟩)) ∧ Kept (fun _ => False) wq w' := by
          intro w1 q; rw [← hL1]; exact pst_len1 TL.out.1 q
        have LEN2 : ∀ w1, Kept (fun _ => False) wq w1 → Calls Try.prog 17 #[.pointer (some ⟨bu, 0, none⟩)] w1 fun e w' => e = .returned (.int .i64 L) ∧ w'.cell? ⟨ub, 0, none⟩ = some (.pointer (some ⟨bu, 0, none⟩)) ∧ Kept (fun _ => False) wq w' := by
          intro w1 q; rw [← hL2]; exact pst_len2 TL.out.1 q
        have E1 := Lib.hid LEN1
        have E2 := Lib.hid LEN2
        clear LEN1 LEN2 hL1 hL2 hT hp' hl' TAIL LAW PS
        refine (wpIn_wide (n := 0)).2 ?_
        go_region_held3 (fun w' => w'.cell? ⟨ub, 0, none⟩ = some (.pointer (some ⟨bu, 0, none⟩))) (go_keep) (first
          | (go_at_call 17; (first | (with_reducible refine Calls.mono (E1.out _ ?_) ?_) | (with_reducible refine Calls.mono (E2.out _ ?_) ?_)); (focus (exact HX.out.twin ⟨rfl, rfl, rfl, rfl⟩)); rintro e w13 ⟨rfl, hc13, h13⟩; have HY := Lib.hid h13; clear h13)
          | (go_at_call 17; (first | (with_reducible refine Calls.mono (E1.out _ ?_) ?_) | (with_reducible refine Calls.mono (E2.out _ ?_) ?_)); (focus (exact (Kept.refl _ _).twin ⟨rfl, rfl, rfl, rfl⟩)); rintro e w12 ⟨rfl, hc12, h12⟩; have HX := Lib.hid h12; clear h12))
        all_goals
          clear hc12 hc13
          gi_wp2_with fail
          go_roundw
          case rel =>
            obtain ⟨F1', F2', hk', -⟩ := TL.out.1.ex
            exact ⟨k + 1, P1', P2', F1', F2', by omega, by omega, by go_num, hk'.keep HY.out, TL.out.2.1, TL.out.2.2⟩
          case measure => simp [intOf]; omega
    · have hsp : (k < n ∧ k = 40) ∨ ¬ k < n := by omega
      obtain ⟨iv, E, F, hT, hE, hF⟩ := ST.out.1.a
      have HT := Lib.hid (And.intro hT (And.intro hE hF))
      clear hT hE hF
      rcases hsp with ⟨hlt, rfl⟩ | hlt
      all_goals
        gi_wp2_with fail
        refine callsIn_WR.2 ((all_any bt wr).mono ?_)
        rintro e W6 ⟨bx, rfl, hbx, k6, g6⟩
        have hnf := run_eq_nilFunc (P := Try.prog) W6 (.func 38) #[] #[.pointer (some ⟨bx, 0, none⟩)] Try.underlying48
        have ST6 := Lib.hid (ST.out.1.keep k6)
        have hT6 := HT.out.1.kept k6 (fun _ _ e => e)
        have hRd : AllRd bx bt M iv E F W6 := ⟨hbx.cell, hbx.lt, hT6.allR⟩
        have hTF : ∀ b, Tfp bt E F b → F1 b := fun b hb => HT.out.2.2 b hb
        have hDF : ∀ b, AllD bt E F b → F1 b := fun b hb => hTF b (hb.imp id (fun h => h.imp id (fun ⟨x, hx, e⟩ => ⟨x, hx, .inl e⟩)))
        have H6 := Lib.hid (And.intro hRd (And.intro hTF (And.intro hDF (And.intro hT6 (And.intro k6 g6)))))
        clear hRd hTF hDF hT6 hbx k6 g6
        gi_wp2_with fail
        obtain ⟨hRd, hTF, hDF, hT6, k6, g6⟩ := H6.out
        have hub : ∀ b, F1 b ∨ F2 b → b ≠ ub ∧ b < wr.heap.size := fun b hb => (ST.out.1.at' b hb).2
        have hubl := ST.out.1.box.lt
        refine wpW_rangeG (all1_any bx bt M iv E F) rfl all_enters (fun _ => by rfl) (fun (pre : List En) U W' => KindsIn N2 bu ub P1 F2 U W') (fun _ _ _ => False) (fun b => F2 b ∨ b = ub)
          (fun (pre : List En) U W W' h k => KindsIn.kept h k) (fun _ _ _ _ h _ => h) ?_ ?_ ?_ hRd (fun W W' h k => h.kept k (fun e => e (.inl rfl)) (fun b hb e => e (.inr hb))) ⟨P2, ST6.out.b, ST.out.2.1.symm, ST6.out.box, fun b hb => hb⟩ ?_ ?_ (fun _ _ _ _ h => h.elim)
        · rintro b (h1 | rfl) (rfl | h2)
          · have := (hub b (.inr h1)).2
            omega
          · exact ST.out.1.dis b (hDF b h2) h1
          · omega
          · exact (hub b (.inl (hDF b h2))).1 rfl
        · rintro b (rfl | h)
          · exact hRd.2.1
          · exact hRd.2.2.dlt b h
        · rintro b (h | rfl)
          · have := (hub b (.inr h)).2
            have := k6.size
            omega
          · have := k6.size
            omega
        · intro l pre x rest U' W7 hitems hi hkw hlt' hD' hRd' hl hlD hlW hlw hUU
          have hx : x ∈ ordT M E := by rw [← hitems]; simp
          have hxE : x ∈ E := (ordT_perm M E).mem_iff.1 hx
          have hxb : F1 x.b := hTF _ (.inr (.inr ⟨x, hxE, .inl rfl⟩))
          have hxd : F1 x.d := hTF _ (.inr (.inr ⟨x, hxE, .inr rfl⟩))
          have hen7 : EnAt W7 x := (hT6.en x hxE).kept hkw (fun e => e.elim (fun e => ST.out.1.dis _ hxb e) (hub _ (.inl hxb)).1) (fun e => e.elim (fun e => ST.out.1.dis _ hxd e) (hub _ (.inl hxd)).1)
          have hlk : ∀ Q : List Pr, Q.Perm P1 → lookP x.key Q = some x.data := fun Q hq => by
            rw [perm_look hq (((hq.map _).nodup_iff).2 ST.out.1.a.nodup)]
            refine (lookP_some_iff ST.out.1.a.nodup).2 ?_
            rw [← HT.out.2.1]
            exact List.mem_map.2 ⟨x, hxE, rfl⟩
          have hxl : x.b ≠ l ∧ x.d ≠ l := by
            have h1 := (hub _ (.inl hxb)).2
            have h2 := (hub _ (.inl hxd)).2
            have := k6.size
            omega
          have LK := Lib.hid (And.intro hlk (And.intro hen7 (And.intro hxl (And.intro hlt' (And.intro hxb hxd)))))
          clear hlk hen7 hxl hx hxE hlt' hD' hRd' hlD hkw hitems hRd hTF hDF hT6 k6 hnf hxb hxd
          simp only [encE, List.zip_toArray, List.zip_cons_cons, List.zip_nil_left, List.foldl_toArray', List.foldl_cons, List.foldl_nil, List.setIfInBounds_toArray, List.set_cons_succ, List.set_cons_zero]
          gi_wp2_with (rw [Oper.semAt_eq _ _ _ (fun c h => by cases h)]; go_simp; try go_bits)
          refine ⟨trivial, ?_⟩
          intro W8 kl zl
          have hi8 := hi.kept (kl.mono fun b _ e h => by subst e; exact hl h)
          obtain ⟨Q, hq, hqp, hbx8, hsub⟩ := hi8
          have hcu := hbx8.cell
          obtain ⟨cc, w9, hcv, k9, b9, z9⟩ := bytes_made W8 x.key
          have H8 := Lib.hid (And.intro hq (And.intro hqp (And.intro hbx8 (And.intro hsub (And.intro k9 (And.intro b9 (And.intro kl zl)))))))
          clear hi hq hqp hbx8 hsub k9 b9 z9 kl zl
          gi_wp2_with (rw [Oper.semAt_eq _ _ _ (fun c h => by cases h)]; go_simp; try go_bits)
          refine callsIn_WR.2 ((ses_look H8.out.1 H8.out.2.2.2.2.1 H8.out.2.2.2.2.2.1).mono ?_)
          rintro e w10 ⟨y, rfl, hs10, hf10, k10⟩
          rw [LK.out.1 Q H8.out.2.1] at hf10 ⊢
          obtain ⟨bz, ez, cz, rfl, y0, y1, yB, -⟩ := hf10.env.some' _ rfl
          obtain ⟨hq, hqp, hbx8, hsub, k9, b9, kl, zl⟩ := H8.out
          have hxF : ¬ F2 x.d := fun e => ST.out.1.dis _ LK.out.2.2.2.2.2 e
          have xB := (((LK.out.2.1.kept kl LK.out.2.2.1.1 LK.out.2.2.1.2).data.kept k9 (fun _ _ _ e => e)).kept k10 (fun b o e => by cases e; exact hxF))
          obtain ⟨w5, hw5, t5⟩ : ∃ w5, w5 = ({ w10 with drawn := w10.drawn + 1 } : World) ∧ Twin w5 w10 := ⟨_, rfl, rfl, rfl, rfl, rfl⟩
          have k89 : Kept F2 W8 w5 := ((k9.mono fun _ _ e => e.elim).trans k10 (fun _ _ e => e)).twin t5
          have hin : KindsIn N2 bu ub P1 F2 U' w5 := ⟨_, hs10.keep ((Kept.refl _ _).twin t5), (useP_perm hq.nodup N2 x.key).trans hqp, hbx8.kept k89 (fun e => (hub _ (.inr e)).1 rfl), hsub⟩
          have hend := round_plain (U := U') kl hl LK.out.2.2.2.1 hlW (k89.mono fun b _ e => hsub b (.inl e))
          have END := Lib.hid (And.intro hend hin)
          have xc := (xB.twin t5).conv (c := x.c)
          have yc := (yB.twin t5).conv (c := cz)
          have y1' : w5.cell? ⟨bz, 1, none⟩ = some (.slice (some ⟨ez, 0, none⟩) x.data.size cz) := by obtain ⟨_, rfl⟩ := t5.eq; exact y1
          clear hq hqp hbx8 hsub k9 b9 kl zl hs10 hf10 y0 y1 yB xB k10 k89 hin hend hxF hcv hcu t5 H8
          simp only [Option.isSome_some]
          gi_wp2_with (rw [Oper.semAt_eq _ _ _ (fun c h => by cases h)]; go_simp; try go_bits)
          refine wpW_region_still (by kernel_rfl) (by kernel_rfl) ?_
          rw [← hw5]
          clear hw5
          iterate 12 (with_reducible refine wpStill_want (by kernel_rfl) (fun K hK => ?_); go_simp; with_reducible refine hK _ ?_; clear hK K)
          refine wpStill_nil ?_
          gi_wp2_with (rw [Oper.semAt_eq _ _ _ (fun c h => by cases h)]; go_simp; try go_bits)
          obtain ⟨⟨e1, e2, e3, e4⟩, e5⟩ := END.out
          exact ⟨e1, _, e2, e3, e4, e5⟩
        · intro items dk U3 W7 hfull hi hkw hRd' hdk hdkn hdkU hUU hUn hUlt
          have hrb : W.heap.size < W0.heap.size := Nat.lt_of_lt_of_le RB.out.lt KW.out.size
          have hbx7 : Box W7 W.heap.size (.bool false) := (((RB.out.kept KW.out (fun e => e)).kept ST.out.1.back (fun e => e)).kept k6 (fun e => e)).kept hkw (fun e => e.elim (fun e => by have := ST.out.1.at' _ (.inr e); omega) (fun e => by have := ST.out.1.ub0; omega))
          have kw7 : Kept (fun _ => False) W W7 := ((K0.out.trans KW.out (fun _ _ e => e)).trans (ST.out.1.back.trans k6 (fun _ _ e => e)) (fun _ _ e => e)).trans hkw (fun b hb e => e.elim (fun e => by have := ST.out.1.at' _ (.inr e); omega) (fun e => by have := ST.out.1.ub0; omega))
          have hcb := hbx7.cell
          have hfb := hbx7.frozen
          have hrdk : W.heap.size ≠ dk := by have := ST.out.1.back.size; have := k6.size; omega
          have FIN := Lib.hid (And.intro hbx7 (And.intro kw7 (And.intro hdk (And.intro hrdk hdkn))))
          clear hbx7 kw7 hdk hdkn hrdk hi hkw hRd' hRd hTF hDF hT6 k6 g6 hUU hUn hUlt hnf hfull hdkU
          gi_wp2_with fail
          obtain ⟨hbx7, kw7, hdk, hrdk, hdkn⟩ := FIN.out
          have ks := Kept.one_set W7 ⟨W.heap.size, 0, none⟩ (.bool true)
          have hdk2 : (W7.setCell ⟨W.heap.size, 0, none⟩ (.bool true)).heap[dk]? = some (.deferred (some [])) := (ks.block dk (Array.getElem?_eq_some_iff.1 hdk).1 (fun e => hrdk e.symm)).trans hdk
          refine leaves_marks [dk] _ (by simp) (fun d hd => by rw [List.mem_singleton.1 hd]; exact hdk2) (fun W' kd' => ?_)
          have hb := (hbx7.set (.bool true)).kept kd' (fun e => hrdk (List.mem_singleton.1 e))
          refine ⟨_, results_box rfl Try.underlying4 rfl rfl hb, rfl, ?_⟩
          have hdW : W.heap.size ≤ dk := by have := K0.out.size; have := KW.out.size; have := ST.out.1.back.size; have := H6.out.2.2.2.2.1.size; omega
          exact (kw7.setCell _ _ (fun h => by have h : W.heap.size < W.heap.size := h; omega)).trans kd' (fun b hb e => by have := List.mem_singleton.1 e; omega)
end Go.Proofs.Ytalahbmahpgkeaa
