/- ScanSizes, walked. -/
import Derived.Test.YtjkgimloafpipaaGreatShown11
import Derived.Test.YtjkgimloafpipaaGreatMade11
namespace Go.Proofs.YtjkgimloafpipaaGreat
set_option linter.unusedVariables false
set_option linter.unusedSimpArgs false
open Go.RowKit Go.MapKept Go.Deep

/-- A row of pairs, one of them. -/
theorem PairsRow.at {w W : World} {c : Nat} {L : List Pr} {a : Option Addr} (h : PairsRow w W (.slice a L.length c) L) {i : Nat} {p : Pr} (hp : L[i]? = some p) : ∃ g, a = some ⟨g, 0, none⟩ ∧ w.cell? ⟨g, i * 2, none⟩ = some (.string p.1) ∧ w.cell? ⟨g, i * 2 + 1, none⟩ = some (.string p.2) := by
  obtain ⟨a', c', e, hg, hz, -⟩ := own_form h.1
  cases e
  obtain ⟨g, rfl⟩ := hg (by have := (List.getElem?_eq_some_iff.1 hp).1; omega)
  obtain ⟨h1, h2⟩ := prV_at hp
  exact ⟨g, rfl, own_cell h.1 h1, own_cell h.1 h2⟩
theorem PairsRow.kept {w w' W : World} {sv : Value} {L : List Pr} {S : Nat → Prop} (h : PairsRow w W sv L) (k : Kept S w w') (hS : ∀ b, sv.ownBlock = some b → ¬ S b) : PairsRow w' W sv L := ⟨ownsRow_kept h.1 k hS, h.2⟩
theorem PairsRow.form {w W : World} {sv : Value} {L : List Pr} (h : PairsRow w W sv L) : ∃ a c, sv = .slice a L.length c := by
  obtain ⟨a, c, e, -⟩ := own_form h.1
  exact ⟨a, c, e⟩
set_option maxRecDepth 100000 in
set_option maxHeartbeats 4000000 in
theorem scanSizes_any (kind key value most : Int) (a : Option Addr) (n c : Nat) (ss : Nat → Pr) (after : ByteArray) (first : Bool) (x y : Int) (W : World) (hs : Puts W a n ss) (hn : n ≤ 9223372036854775807) (haft : after.size ≤ 9223372036854775807) :
    Calls Tryz.prog 5 #[.int .i64 kind, .int .i64 key, .int .i64 value, .int .i64 most, .slice a n c, .string after, .bool first, .int .i64 x, .int .i64 y] W fun e w' => e = .returned (.bool true) ∧ Kept (fun _ => False) W w' := by
  have HS := Lib.hid hs
  clear hs
  obtain ⟨A, hA, hA'⟩ := mask_nat x 4 (by omega) 15 (by decide)
  obtain ⟨B, hB, hB'⟩ := mask_nat y 4 (by omega) 15 (by decide)
  obtain ⟨M, hM⟩ : ∃ M, M = min after.size 20 := ⟨_, rfl⟩
  have hmin : min (after.size : Int) 20 = (M : Int) := by omega
  have hM1 : (M : Int) ≤ after.size := by omega
  have h0 : (0 : Int) ≤ (M : Int) := by omega
  clear hM
  go_enter Tryz.func5, Tryz.ntmps5
  go_wp2_with fail
  refine (shown_any W).mono ?_
  rintro e w1 ⟨rfl, k1⟩
  have K1 := Lib.hid k1
  have MD := Lib.hid (made11_any kind key value most a n c ss w1 (fun i hi => by
    obtain ⟨b, o, e, hb, hp⟩ := HS.out i hi
    exact ⟨b, o, e, Nat.lt_of_lt_of_le hb k1.size, hp.kept hb k1 (fun e => e)⟩) hn)
  clear k1
  go_wp2_with fail
  refine MD.out.mono ?_
  rintro e w2 ⟨bt, br, P, rfl, hd⟩
  have D := Lib.hid hd
  clear MD hd
  go_upto_if 45 with fail
  go_cut [7, 8] from 45 to 47 (fun s7 s8 wc => ∃ A' B' : Nat, A' ≤ B' ∧ B' ≤ 15 ∧ s7 = .int .i64 (A' : Int) ∧ s8 = .int .i64 (B' : Int) ∧ wc = w2)
  case first =>
    by_cases hab : (B : Int) < (A : Int)
    · go_wp2_with fail
      go_meet
      exact ⟨B, A, by omega, by omega, rfl, rfl, rfl⟩
    · go_wp2_with fail
      go_meet
      exact ⟨A, B, by omega, by omega, rfl, rfl, rfl⟩
  case rest =>
    obtain ⟨A', B', hab, hb15, rfl, rfl, rfl⟩ := hcut
    clear hA hB hA' hB'
    obtain ⟨af, haf⟩ : ∃ af, after.extract 0 M = af := ⟨_, rfl⟩
    obtain ⟨L, hL⟩ : ∃ L, aboveP af first P = L := ⟨_, rfl⟩
    obtain ⟨Ft, Fr, hses, -⟩ := D.out.ex
    have SE := Lib.hid hses
    have HL := Lib.hid hL
    have HAF := Lib.hid haf
    clear hses hL haf
    go_wp2_with fail
    rw [HAF.out]
    refine (ses_batch SE.out af first (A' : Int)).mono ?_
    rintro e w3 ⟨sv, rfl, hrow, k3⟩
    rw [HL.out] at hrow ⊢
    have H3 := Lib.hid (And.intro hrow k3)
    clear hrow k3
    go_wp2_with fail
    refine (ses_batch (SE.out.keep H3.out.2) af first (B' : Int)).mono ?_
    rintro e w4 ⟨sv2, rfl, hrow, k4⟩
    rw [HL.out] at hrow ⊢
    have H4 := Lib.hid (And.intro hrow k4)
    clear hrow k4
    have r1 := H3.out.1.kept H4.out.2 (fun _ _ e => e)
    have r2 := H4.out.1
    simp only [batchP, Int.toNat_natCast] at r1 r2 ⊢
    obtain ⟨a1, c1, rfl⟩ := r1.form
    obtain ⟨a2, c2, rfl⟩ := r2.form
    obtain ⟨X, hX⟩ : ∃ X, (L.take A').length = X := ⟨_, rfl⟩
    obtain ⟨Y, hY⟩ : ∃ Y, (L.take B').length = Y := ⟨_, rfl⟩
    have hX' : X = min A' L.length := by rw [← hX, List.length_take]
    have hY' : Y = min B' L.length := by rw [← hY, List.length_take]
    have R1 := Lib.hid r1
    have R2 := Lib.hid r2
    rw [hX, hY]
    have hXY : ¬ (Y : Int) < (X : Int) := by omega
    have hmn : min (A' : Int) (Y : Int) = (X : Int) := by omega
    have HXY := Lib.hid (And.intro hX hY)
    have HLE := Lib.hid (show X ≤ Y by omega)
    have HK := Lib.hid (show Kept (fun _ => False) W w4 from ((K1.out.trans D.out.back (fun _ _ e => e)).trans H3.out.2 (fun _ _ e => e)).trans H4.out.2 (fun _ _ e => e))
    obtain ⟨b1, hb1⟩ : ∃ b1, decide (A' < L.length) = b1 := ⟨_, rfl⟩
    obtain ⟨b3, hb3⟩ : ∃ b3, decide (B' < L.length) = b3 := ⟨_, rfl⟩
    rw [hb1, hb3]
    have HSP := Lib.hid (show (b1 = true ∧ X < Y) ∨ (b1 = true ∧ b3 = true ∧ ¬ X < Y) ∨ (b1 = false ∧ b3 = false ∧ ¬ X < Y) by
      rw [← hb1, ← hb3]
      simp only [decide_eq_true_eq, decide_eq_false_iff_not]
      omega)
    clear r1 r2 hX hY hX' hY' hb1 hb3
    go_upto_region 12 with fail
    go_cut [94] from 69 to 94 (fun s94 wc => s94 = .bool false ∧ wc = w4)
    case first =>
      rcases HSP.out with ⟨rfl, h2⟩ | ⟨rfl, rfl, h2⟩ | ⟨rfl, rfl, h2⟩
      · have h2' : (X : Int) < (Y : Int) := by omega
        clear h2
        go_wp2_with fail
        go_meet
        exact ⟨rfl, rfl⟩
      · have h2' : ¬ (X : Int) < (Y : Int) := by omega
        clear h2
        go_wp2_with fail
        go_meet
        exact ⟨rfl, rfl⟩
      · have h2' : ¬ (X : Int) < (Y : Int) := by omega
        clear h2
        go_wp2_with fail
        go_meet
        exact ⟨rfl, rfl⟩
    case rest =>
      obtain ⟨rfl, rfl⟩ := hcut
      go_wp2_with fail
      go_loopw [26] (fun i wr => ∃ k : Nat, k ≤ X ∧ i = .int .i64 (k : Int) ∧ Kept (fun _ => False) wc wr) (fun i _ => X - (intOf i).toNat)
      case atStart => exact ⟨0, Nat.zero_le _, rfl, Kept.refl _ _⟩
      case round =>
        obtain ⟨k, hk, rfl, hkr⟩ := hrel
        by_cases hlt : k < X
        · obtain ⟨p, hp1⟩ : ∃ p, L[k]? = some p := by
            have := HXY.out.1
            rw [List.length_take] at this
            exact ⟨_, List.getElem?_eq_getElem (by omega)⟩
          have hp2 : (L.take A')[k]? = some p := by
            have := HXY.out.1
            rw [List.length_take] at this
            rw [List.getElem?_take, if_pos (by omega), hp1]
          have hp3 : (L.take B')[k]? = some p := by
            have := HXY.out.1
            rw [List.length_take] at this
            rw [List.getElem?_take, if_pos (by omega), hp1]
          obtain ⟨g1, rfl, d1, d2⟩ := (R1.out.kept hkr (fun _ _ e => e)).at hp2
          obtain ⟨g2, rfl, d3, d4⟩ := (R2.out.kept hkr (fun _ _ e => e)).at hp3
          have hltY : (k : Int) < (Y : Int) := by have := HLE.out; omega
          have HKR := Lib.hid hkr
          clear hp1 hp2 hp3 hkr hk
          go_wp2_with fail
          go_region
          all_goals
            go_wp2_with fail
            go_roundw
            case rel => exact ⟨k + 1, by omega, by go_num, HKR.out.drew⟩
            case measure => simp [intOf]; omega
        · have HKR := Lib.hid (HK.out.trans hkr (fun _ _ e => e))
          clear hkr
          go_wp2_with fail
          go_ret
          exact ⟨rfl, HKR.out⟩
end Go.Proofs.YtjkgimloafpipaaGreat
