/- The document's Restore of an LRU, or no map. -/
import Derived.Test.YtjkgimloafpipaaGreatRResA
namespace Go.Proofs.YtjkgimloafpipaaGreat
set_option linter.unusedVariables false
set_option linter.unusedSimpArgs false
open Go.RowKit Go.MapKept
set_option maxRecDepth 100000 in
set_option maxHeartbeats 4000000 in
theorem rrestore_3 (m : TM) (s : ByteArray) (W : World) (hk : ¬ m.kd = 1 ∧ ¬ m.kd = 2) (hs : s.size ≤ 1000000) (hnm : m.nm.size ≤ 9223372036854775807) : Calls Tryz.prog 17 #[m.v, .string s] W (RResPost m s W) := by
  obtain ⟨nm, kd, ks, vs, mx⟩ := m
  have HK := Lib.hid hk
  clear hk
  obtain ⟨m, hm⟩ : ∃ m : TM, m = ⟨nm, kd, ks, vs, mx⟩ := ⟨_, rfl⟩
  have hv : TM.v ⟨nm, kd, ks, vs, mx⟩ = .agg #[.string nm, .int .i64 kd, .int .i64 ks, .int .i64 vs, .int .i64 mx] := rfl
  rw [hv, ← hm]
  obtain ⟨W1, hW1⟩ : ∃ W1, W.alloc (.cells #[.string nm, .int .i64 kd, .int .i64 ks, .int .i64 vs, .int .i64 mx] 25) = W1 := ⟨_, rfl⟩
  obtain ⟨q, hq⟩ : ∃ q, W.heap.size = q := ⟨_, rfl⟩
  have B1 := Lib.hid (show MBox W1 q m ∧ Kept (fun _ => False) W W1 from ⟨by rw [← hW1, ← hq, hm]; exact MBox.new W ⟨nm, kd, ks, vs, mx⟩ 25, by rw [← hW1]; exact Kept.one_alloc _ _⟩)
  have HM := Lib.hid hm
  have HW1 := Lib.hid (And.intro hW1 hq)
  have NEW := Lib.hid (show Calls Tryz.prog 34 #[.agg #[.string nm, .int .i64 kd, .int .i64 ks, .int .i64 vs, .int .i64 mx]] W1 _ from by have h := rnew_any (W := W1) m (by rw [hm]; exact hnm); rw [hm] at h; exact h)
  clear hv hm hW1 hq
  go_enter Tryz.func17, Tryz.ntmps17
  go_wp2_with fail
  try rw [HW1.out.2]
  try rw [HW1.out.1]
  refine NEW.out.mono ?_
  rintro e w2 (⟨hr, rfl, k2⟩ | ⟨hr, br, lv, E0, rfl, hT, hE, hF, k2⟩)
  · rw [← HM.out] at hr
    have K2 := Lib.hid (And.intro hr k2)
    clear hr k2 NEW
    go_wp2_with fail
    go_ret2
    refine ⟨B1.out.2.trans K2.out.2 (fun _ _ e => e), .inr ⟨fun h => ?_, ?_⟩⟩
    · rw [h.1] at K2
      cases K2.out.1
    · rw [K2.out.1]
      rfl
  · rw [← HM.out] at hr hT hE
    have hr3 := (rightB_iff _ _ _ _ _).1 hr
    have RS := Lib.hid (show RSes m br (newP m) (fun b => W1.heap.size ≤ b) w2 ∧ Kept (fun _ => False) W1 w2 from ⟨⟨lv, E0, hT, hE, hF⟩, k2⟩)
    have HR := Lib.hid hr
    clear hT hE hF k2 hr NEW
    rw [HM.out] at hr3
    obtain ⟨-, h1, h2, h3, h4, -, h5, h6, h7, h8⟩ := hr3
    simp only at h1 h2 h3 h4 h5 h6 h7 h8
    obtain ⟨K, rfl⟩ : ∃ K : Nat, ks = K := ⟨ks.toNat, by omega⟩
    obtain ⟨V, rfl⟩ : ∃ V : Nat, vs = V := ⟨vs.toNat, by omega⟩
    obtain ⟨X, rfl⟩ : ∃ X : Nat, mx = X := ⟨mx.toNat, by omega⟩
    have hK1 : 1 ≤ K := by omega
    have hK64 : K ≤ 64 := by omega
    have hV1 : 1 ≤ V := by omega
    have hV256 : V ≤ 256 := by omega
    have hX1 : 1 ≤ X := by omega
    have hX1024 : X ≤ 1024 := by omega
    have hkd3 : kd = 1 ∨ kd = 2 ∨ kd = 3 := by omega
    clear h1 h2 h3 h4 h5 h6 h7 h8
    obtain ⟨T, hT⟩ : ∃ T, s.size = T := ⟨_, rfl⟩
    obtain ⟨sz, hsz⟩ : ∃ sz, K + V = sz := ⟨_, rfl⟩
    have hsz1 : 1 ≤ sz := by omega
    have n5 : ¬ (sz : Int) = 0 := by omega
    have hszb : sz ≤ 320 := by omega
    obtain ⟨n, hn⟩ : ∃ n, T / sz = n := ⟨_, rfl⟩
    obtain ⟨r, hr⟩ : ∃ r, T % sz = r := ⟨_, rfl⟩
    rw [hT] at hs
    have hnT : n * sz + r = T := by rw [← hn, ← hr, Nat.mul_comm]; exact Nat.div_add_mod T sz
    have hn9 : n ≤ T := by rw [← hn]; exact Nat.div_le_self _ _
    have hr9 : r < sz := by rw [← hr]; exact Nat.mod_lt _ hsz1
    have n1 : wrap64 ((K : Int) + (V : Int)) = (sz : Int) := by rw [IntWalk.wrap64_in _ (by omega)]; omega
    have n2 : ((T : Int)).tdiv (sz : Int) = (n : Int) := by rw [← hn]; rfl
    have n3 : ((T : Int)).tmod (sz : Int) = (r : Int) := by rw [← hr]; exact tmod_nat T sz
    have n4 : wrap64 (n : Int) = (n : Int) := IntWalk.wrap64_in _ (by clear n1 n2 n3 hnT hn hr; omega)
    have hbc := B1.out.1.kept RS.out.2 (fun e => e)
    rw [HM.out] at hbc
    obtain ⟨_, c0, c1, c2, c3, c4⟩ := hbc
    simp only at c0 c1 c2 c3 c4
    have HS := Lib.hid (And.intro hs (And.intro hsz1 hszb))
    have HTT := Lib.hid (And.intro (And.intro hT hsz) (And.intro hn (And.intro hr hnT)))
    have OKI := Lib.hid (show rresOK m s ↔ (r = 0 ∧ n ≤ X ∧ (kd = 1 → n = X) ∧ resOK m (entsB K V s)) from by
      unfold rresOK
      rw [HM.out]
      simp only [Int.toNat_natCast]
      rw [hT, hsz, hn, hr]
      clear hn hr hnT n1 n2 n3 n4 n5
      have : TM.right ⟨nm, kd, K, V, X⟩ = true := by rw [← HM.out]; exact HR.out
      constructor
      · rintro ⟨-, h2, h3, h4, h5⟩
        exact ⟨h2, by omega, fun e => by have := h4 e; omega, h5⟩
      · rintro ⟨h2, h3, h4, h5⟩
        exact ⟨this, h2, by omega, fun e => by have := h4 e; omega, h5⟩)
    rw [← hT] at n2 n3
    have HB := Lib.hid (And.intro (And.intro hK1 hK64) (And.intro (And.intro hV1 hV256) (And.intro (And.intro hX1 hX1024) (And.intro hkd3 (And.intro hn9 hr9)))))
    clear hT hsz hn hr hnT c0 hK1 hK64 hV1 hV256 hX1 hX1024 hkd3 hn9 hr9
    by_cases hgood : r = 0 ∧ n ≤ X ∧ (kd = 1 → n = X)
    · obtain ⟨g1, g2, g3⟩ := hgood
      have g2' : ¬ (X : Int) < (n : Int) := by omega
      have g1' : (r : Int) = 0 := by omega
      obtain ⟨E, hE⟩ : ∃ E, entsB K V s = E := ⟨_, rfl⟩
      have hEl : E.length = n := by rw [← hE, entsB_len, HTT.out.1.1, HTT.out.1.2, HTT.out.2.1]
      have hEs : ∀ p ∈ E, (p.1.size : Int) = m.ks ∧ (p.2.size : Int) = m.vs := by
        intro p hp
        rw [← hE] at hp
        have := ents_sizes (by have := HB.out.1.1; omega) p hp
        rw [HM.out]
        exact ⟨by show (p.1.size : Int) = (K : Int); omega, by show (p.2.size : Int) = (V : Int); omega⟩
      have HE := Lib.hid (And.intro hE (And.intro hEl hEs))
      have CUT := Lib.hid (ent_cut HTT.out.1.1 HTT.out.1.2 HTT.out.2.1 (by have h := HTT.out.2.2.2; rw [g1, Nat.add_zero] at h; exact h) HS.out.1 HS.out.2.1 HS.out.2.2)
      have G := Lib.hid (And.intro g1 (And.intro g2 g3))
      clear hE hEl hEs g1 g2
      have hkd3 := HB.out.2.2.2.1
      rcases hkd3 with rfl | rfl | rfl
      ·
        exact absurd rfl HK.out.1
      ·
        exact absurd rfl HK.out.2
      ·
        clear g3
        go_wp2_with fail
        try simp only [show decide (X < n) = false from decide_eq_false (Nat.not_lt.2 G.out.2.1)]
        go_loopw [10, 11, 12, 13, 14] (fun s10 s11 s12 s13 s14 wr => ∃ (i : Nat) (F : Nat → Prop), i ≤ n ∧ s10 = .int .i64 (i : Int) ∧ RSes m br (rrunQ m E i) F wr ∧ (∀ b, F b → W1.heap.size ≤ b) ∧ resPre m E i ∧ Kept (fun _ => False) W1 wr) (fun s10 _ _ _ _ _ => n - (intOf s10).toNat)
        case atStart => exact ⟨0, _, Nat.zero_le _, rfl, by rw [rrun_zero]; exact RS.out.1, fun b hb => hb, ⟨fun _ => rfl, fun _ => List.Pairwise.nil, fun _ => List.nodup_nil⟩, RS.out.2⟩
        case round =>
          obtain ⟨i, F, hi, rfl, hri, hF, hpre, hkr⟩ := hrel
          have RI := Lib.hid (And.intro hri (And.intro hF (And.intro hpre hkr)))
          have KW := Lib.hid (show Kept (fun _ => False) W wr from B1.out.2.trans hkr (fun _ _ e => e))
          have hbc := B1.out.1.kept hkr (fun e => e)
          rw [HM.out] at hbc
          obtain ⟨_, -, c1, c2, c3, c4⟩ := hbc
          simp only at c1 c2 c3 c4
          clear hri hF hpre hkr
          by_cases hlt : i < n
          · obtain ⟨p, A, B, C, hp, m1, m2, m3, e1, e2, q1, q2, q3, q4, q5, q6, q7, n9⟩ := CUT.out i hlt
            rw [HE.out.1] at hp
            have HP := Lib.hid hp
            have HPS := Lib.hid (show p.1.size ≤ 1000 ∧ p.2.size ≤ 1000 from by
              have h1 := HE.out.2.2 p (List.mem_of_getElem? hp)
              rw [HM.out] at h1
              have h2 : (p.1.size : Int) = (K : Int) := h1.1
              have h3 : (p.2.size : Int) = (V : Int) := h1.2
              exact small_pr h2 h3 HB.out.1.2 HB.out.2.1.2)
            have M23 := Lib.hid (And.intro m1 (And.intro m2 (And.intro m3 (And.intro e1 e2))))
            by_cases h0 : 0 < i
            · have h0i : (0 : Int) < (i : Int) := Int.ofNat_lt.2 h0
              obtain ⟨q0, A', B', C', hq0, m4, m5, -, e3, -, r1, -, r3, -, r5, r6, -, -⟩ := CUT.out (i - 1) (Nat.lt_of_le_of_lt (Nat.sub_le i 1) hlt)
              have m0 := wrap_pred h0 (Nat.le_trans (Nat.le_of_lt hlt) (Nat.le_trans HB.out.2.2.2.2.1 HS.out.1))
              rw [HE.out.1] at hq0
              have HQ0 := Lib.hid hq0
              generalize ((i - 1 : Nat) : Int) = I0 at m0 m4
              clear hp hq0
              by_cases hin : p.1 ∈ (E.take i).map (·.1)
              · have TW := Lib.hid (rrun_twice HR.out (by rw [HM.out]) HE.out.2.2 HP.out hin)
                clear hin
                go_wp2_with fail
                refine (rses_upd (k := p.1) (v := p.2) (fl := 1) RI.out.1 (le_big11 HPS.out.1) (le_big11 HPS.out.2)).mono ?_
                rintro e w5 ⟨rfl, h5, k5⟩
                rw [TW.out.1]
                have KW5 := Lib.hid (show Kept (fun _ => False) W w5 from B1.out.2.trans (RI.out.2.2.2.trans k5 (fun b hb e => by have := RI.out.2.1 b e; omega)) (fun _ _ e => e))
                have NOPE := Lib.hid (show ∀ w', Kept (fun _ => False) W w' → RResPost m s W (.returned (.tuple #[.pointer none, .int .i64 2])) w' from fun w' kk => ⟨kk, .inr ⟨fun h => TW.out.2 (by have h1 := (OKI.out.1 h).2.2.2; rw [HE.out.1] at h1; exact h1), by rw [if_pos HR.out]⟩⟩)
                clear h5 k5
                go_wp2_with fail
                go_ret2
                exact NOPE.out _ KW5.out
              · have NX := Lib.hid (pre_next (m := m) (by rw [HM.out]; exact .inr (.inr rfl)) HP.out RI.out.2.2.1 (fun e => by rw [HM.out] at e; cases e) (fun e => by rw [HM.out] at e; cases e) (fun _ => hin))
                have CD := Lib.hid (rrun_new HR.out (by rw [HM.out]; show ((3 : Int)) ≠ 1; decide) HE.out.2.2 (by rw [HE.out.2.1, HM.out]; exact Int.ofNat_le.2 G.out.2.1) HP.out hin (fun e => by rw [HM.out] at e; cases e))
                clear hin
                skip
                go_wp2_with fail
                refine (rses_upd (k := p.1) (v := p.2) (fl := 1) RI.out.1 (le_big11 HPS.out.1) (le_big11 HPS.out.2)).mono ?_
                rintro e w5 ⟨rfl, h5, k5⟩
                rw [CD.out.1]
                rw [CD.out.2] at h5
                have H5 := Lib.hid (And.intro h5 k5)
                clear h5 k5
                go_wp2_with fail
                go_roundw
                case rel =>
                  refine ⟨i + 1, _, hlt, by rw [n9]; rfl, H5.out.1, fun b hb => ?_, NX.out.1, ?_⟩
                  · rcases hb with hb | hb
                    · exact RI.out.2.1 b hb
                    · exact Nat.le_trans RI.out.2.2.2.size hb.1
                  · exact RI.out.2.2.2.trans H5.out.2 (fun b hb e => absurd hb (Nat.not_lt.2 (RI.out.2.1 b e)))
                case measure => rw [n9]; exact meas_next hlt
            · have h0i : ¬ (0 : Int) < (i : Int) := fun e => h0 (Int.ofNat_lt.1 e)
              clear hp
              by_cases hin : p.1 ∈ (E.take i).map (·.1)
              · have TW := Lib.hid (rrun_twice HR.out (by rw [HM.out]) HE.out.2.2 HP.out hin)
                clear hin
                go_wp2_with fail
                refine (rses_upd (k := p.1) (v := p.2) (fl := 1) RI.out.1 (le_big11 HPS.out.1) (le_big11 HPS.out.2)).mono ?_
                rintro e w5 ⟨rfl, h5, k5⟩
                rw [TW.out.1]
                have KW5 := Lib.hid (show Kept (fun _ => False) W w5 from B1.out.2.trans (RI.out.2.2.2.trans k5 (fun b hb e => by have := RI.out.2.1 b e; omega)) (fun _ _ e => e))
                have NOPE := Lib.hid (show ∀ w', Kept (fun _ => False) W w' → RResPost m s W (.returned (.tuple #[.pointer none, .int .i64 2])) w' from fun w' kk => ⟨kk, .inr ⟨fun h => TW.out.2 (by have h1 := (OKI.out.1 h).2.2.2; rw [HE.out.1] at h1; exact h1), by rw [if_pos HR.out]⟩⟩)
                clear h5 k5
                go_wp2_with fail
                go_ret2
                exact NOPE.out _ KW5.out
              · have NX := Lib.hid (pre_next (m := m) (by rw [HM.out]; exact .inr (.inr rfl)) HP.out RI.out.2.2.1 (fun e => by rw [HM.out] at e; cases e) (fun e => by rw [HM.out] at e; cases e) (fun _ => hin))
                have CD := Lib.hid (rrun_new HR.out (by rw [HM.out]; show ((3 : Int)) ≠ 1; decide) HE.out.2.2 (by rw [HE.out.2.1, HM.out]; exact Int.ofNat_le.2 G.out.2.1) HP.out hin (fun e => by rw [HM.out] at e; cases e))
                clear hin
                skip
                go_wp2_with fail
                refine (rses_upd (k := p.1) (v := p.2) (fl := 1) RI.out.1 (le_big11 HPS.out.1) (le_big11 HPS.out.2)).mono ?_
                rintro e w5 ⟨rfl, h5, k5⟩
                rw [CD.out.1]
                rw [CD.out.2] at h5
                have H5 := Lib.hid (And.intro h5 k5)
                clear h5 k5
                go_wp2_with fail
                go_roundw
                case rel =>
                  refine ⟨i + 1, _, hlt, by rw [n9]; rfl, H5.out.1, fun b hb => ?_, NX.out.1, ?_⟩
                  · rcases hb with hb | hb
                    · exact RI.out.2.1 b hb
                    · exact Nat.le_trans RI.out.2.2.2.size hb.1
                  · exact RI.out.2.2.2.trans H5.out.2 (fun b hb e => absurd hb (Nat.not_lt.2 (RI.out.2.1 b e)))
                case measure => rw [n9]; exact meas_next hlt
          · obtain rfl : i = n := Nat.le_antisymm hi (Nat.not_lt.1 hlt)
            have FIN := Lib.hid (show RResPost m s W (.returned (.tuple #[.pointer (some ⟨br, 0, none⟩), .int .i64 0])) wr from ⟨KW.out, .inl ⟨OKI.out.2 ⟨G.out.1, G.out.2.1, G.out.2.2, by
              rw [HE.out.1]
              refine pre_resOK (by rw [HE.out.2.1]; exact RI.out.2.2.1) (fun e => ?_)
              rw [HM.out] at e
              rw [HM.out]
              exact congrArg Int.ofNat (HE.out.2.1.trans (G.out.2.2 e))⟩, br, F, rfl, by
              have h := RI.out.1
              have h2 := rrun_all (m := m) (E := E) (fun e => by
                rw [HE.out.2.1, HM.out]
                rw [HM.out] at e
                exact ((G.out.2.2 e)).trans (Int.toNat_natCast _).symm)
              rw [HE.out.2.1] at h2
              rw [h2] at h
              have h3 := HE.out.1
              rw [HM.out]
              simp only [Int.toNat_natCast]
              rw [h3, ← HM.out]
              exact h⟩⟩)
            clear c1 c2 c3 c4
            go_wp2_with fail
            go_ret2
            exact FIN.out
    · have NO := Lib.hid (show ¬ rresOK m s from fun h => hgood ⟨(OKI.out.1 h).1, (OKI.out.1 h).2.1, (OKI.out.1 h).2.2.1⟩)
      have hsp : (¬ (r : Int) = 0) ∨ ((r : Int) = 0 ∧ (X : Int) < (n : Int)) ∨ ((r : Int) = 0 ∧ ¬ (X : Int) < (n : Int) ∧ kd = 1 ∧ ¬ (n : Int) = (X : Int)) := by
        by_cases h1 : r = 0
        · by_cases h2 : n ≤ X
          · by_cases h3 : kd = 1
            · exact .inr (.inr ⟨by omega, by omega, h3, fun e => hgood ⟨h1, h2, fun _ => by omega⟩⟩)
            · exact absurd ⟨h1, h2, fun e => absurd e h3⟩ hgood
          · exact .inr (.inl ⟨by omega, by omega⟩)
        · exact .inl (by omega)
      have FIN := Lib.hid (show RResPost m s W (.returned (.tuple #[.pointer none, .int .i64 2])) w2 from ⟨B1.out.2.trans RS.out.2 (fun _ _ e => e), .inr ⟨NO.out, by rw [if_pos HR.out]⟩⟩)
      clear hgood
      rcases hsp with h1 | ⟨h1, h2⟩ | ⟨h1, h2, rfl, h3⟩
      · go_wp2_with fail
        go_ret2
        exact FIN.out
      · go_wp2_with fail
        go_ret2
        exact FIN.out
      · have h4 : ¬ n = X := fun e => h3 (by rw [e])
        have h5 : ((n : Int) != (X : Int)) = true := bne_iff_ne.2 h3
        go_wp2_with fail
        go_ret2
        exact FIN.out
end Go.Proofs.YtjkgimloafpipaaGreat
