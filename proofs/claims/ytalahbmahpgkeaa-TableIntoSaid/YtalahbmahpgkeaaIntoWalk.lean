/- TableInto, walked. -/
import Derived.Test.YtalahbmahpgkeaaInto
import Derived.Test.YtalahbmahpgkeaaBytes
import Derived.Deep.CutBlock
namespace Go.Proofs.Ytalahbmahpgkeaa
set_option linter.unusedVariables false
set_option linter.unusedSimpArgs false
open Go.RowKit Go.MapKept

theorem zero4 : zeroB 4 = numK 0 := by decide
theorem right_nats {m : TM} (h : m.right = true) : ∃ K V : Nat, m.ks = (K : Int) ∧ m.vs = (V : Int) ∧ 1 ≤ V ∧ K ≤ 64 ∧ V ≤ 256 := by
  have hr := (rightB_iff _ _ _ _ _).1 h
  exact ⟨m.ks.toNat, m.vs.toNat, by omega, by omega, by omega, by omega, by omega⟩

set_option maxRecDepth 100000 in
set_option maxHeartbeats 4000000 in
theorem tableInto_any (kind key value : Int) (k0 a b : ByteArray) (W : World) (hk0 : k0.size ≤ 9223372036854775807) (ha : a.size ≤ 9223372036854775807) (hb : b.size ≤ 9223372036854775807) :
    Calls Try.prog 6 #[.int .i64 kind, .int .i64 key, .int .i64 value, .string k0, .string a, .string b] W fun e w' => e = .returned (.bool true) ∧ Kept (fun _ => False) W w' := by
  obtain ⟨M, hM⟩ : ∃ M, M = smallM kind key value 3 := ⟨_, rfl⟩
  have hsm := (small_right kind key value 3).1
  have hsa := small_any kind key value 3
  rw [← hM] at hsm hsa
  clear hM
  obtain ⟨K, V, hK, hV, hV1, hK64, hV256⟩ := right_nats hsm
  have hrr := (rightB_iff _ _ _ _ _).1 hsm
  obtain ⟨nm, kd, ks, vs, mx⟩ := M
  simp only at hK hV hrr
  subst hK
  subst hV
  simp only [TM.v] at hsa
  have HSA := Lib.hid hsa
  have HSM := Lib.hid hsm
  have h14 : kd = 1 → K = 4 := fun e => by have := hrr.2.2.2.2.2.1 e; omega
  have H14 := Lib.hid h14
  obtain ⟨k1, hk1⟩ : ∃ k1, k1 = fitB k0 K := ⟨_, rfl⟩
  obtain ⟨a1, ha1⟩ : ∃ a1, a1 = fitB a V := ⟨_, rfl⟩
  obtain ⟨b1, hb1⟩ : ∃ b1, b1 = fitB b V := ⟨_, rfl⟩
  have FK := Lib.hid (show ∀ w, _ from fun w => hk1 ▸ fit_any k0 K hk0 (by omega) w)
  have FA := Lib.hid (show ∀ w, _ from fun w => ha1 ▸ fit_any a V ha (by omega) w)
  have FB := Lib.hid (show ∀ w, _ from fun w => hb1 ▸ fit_any b V hb (by omega) w)
  have SK := Lib.hid (show k1.size = K from by rw [hk1, fitB_size])
  have SA := Lib.hid (show a1.size = V from by rw [ha1, fitB_size])
  have SB := Lib.hid (show b1.size = V from by rw [hb1, fitB_size])
  clear hk1 ha1 hb1 hsa hsm hrr h14
  go_enter Try.func6, Try.ntmps6
  go_wp2_with fail
  refine (shown_any W).mono ?_
  rintro e w1 ⟨rfl, k1'⟩
  have K1 := Lib.hid k1'
  clear k1'
  go_wp2_with fail
  refine (HSA.out w1).mono ?_
  rintro e w2 ⟨rfl, k2⟩
  have K2 := Lib.hid (K1.out.trans k2 (fun _ _ e => e))
  clear k2
  go_upto_region 3 with fail
  generalize hw3 : w2.alloc (.cells #[.string nm, .int .i64 kd, .int .i64 (K : Int), .int .i64 (V : Int), .int .i64 mx] 23) = W0
  have HB := Lib.hid (show MBox W0 w2.heap.size ⟨nm, kd, K, V, mx⟩ from by rw [← hw3]; exact MBox.new w2 ⟨nm, kd, K, V, mx⟩ 23)
  have K3 := Lib.hid (show Kept (fun _ => False) W W0 from K2.out.trans (by rw [← hw3]; exact Kept.one_alloc w2 _) (fun _ _ e => e))
  clear hw3
  generalize hq : w2.heap.size = q at *
  clear hq K1 K2
  obtain ⟨_, c0, c1, c2, c3, c4⟩ := HB.out
  simp only at c0 c1 c2 c3 c4
  go_wp2_with fail
  refine (new_any ⟨nm, kd, K, V, mx⟩).mono ?_
  rintro e w4 (⟨hf, -⟩ | ⟨-, bt, iv, F, E, rfl, hE, hm⟩)
  · rw [HSM.out] at hf
    cases hf
  have HM := Lib.hid hm
  have HE := Lib.hid hE
  clear c0 c1 c2 c3 c4
  have hb := HB.out.kept hm.2.2 (fun e => e)
  have c2 : w4.cell? ⟨q, 2, none⟩ = some (.int .i64 (K : Int)) := hb.c2
  clear hb hm hE
  go_wp2_with fail
  refine (FK.out w4).mono ?_
  rintro e w5 ⟨rfl, k5⟩
  have HM := Lib.hid (HM.out.kept k5)
  have hb := HB.out.kept HM.out.2.2 (fun e => e)
  have c1 : w5.cell? ⟨q, 1, none⟩ = some (.int .i64 kd) := hb.c1
  have c3 : w5.cell? ⟨q, 3, none⟩ = some (.int .i64 (V : Int)) := hb.c3
  clear hb c2 k5
  by_cases h1 : kd = 1
  case' pos =>
    have hk1 : (kd == 1) = true := by simpa using h1
    obtain rfl := H14.out h1
    have hmk : (Instr.makeSlice 34 (.int .i64 4) (.int .i64 4)).run Try.prog w5 = .ok (.slice (some ⟨w5.heap.size, 0, none⟩) 4 4) (w5.alloc (.cells (madeCells (Value.int .u8 0).cells (4 * 1)) 5)) := make_bytes 4 (by omega) w5
    have hcv := (bytes_new w5 (zeroB 4) 5 (fr := (0, 0)) rfl (zeroB_size 4).symm (made_zero 4)).conv (c := 4)
    have k6 := Kept.one_alloc w5 (.cells (madeCells (Value.int .u8 0).cells (4 * 1)) 5)
    generalize madeCells (Value.int .u8 0).cells (4 * 1) = C at hmk hcv k6
    rw [zero4] at hcv
    generalize hw6 : w5.alloc (.cells C 5) = w6 at hmk hcv k6
    have H1 := Lib.hid h1
    have K6 := Lib.hid k6
    clear h1 k6 hw6
    go_upto_region 9 with fail
    obtain ⟨kk, hkk⟩ : ∃ kk, numK 0 = kk := ⟨_, rfl⟩
    rw [hkk]
    have HKK := Lib.hid (show (kd = 1 → kk = numK 0) ∧ (kk.size : Int) = ((4 : Nat) : Int) from ⟨fun _ => hkk.symm, by rw [← hkk]; rfl⟩)
    have HMM := Lib.hid (HM.out.kept K6.out)
    clear hmk hcv hkk K6 HM
  case' neg =>
    have hk1 : (kd == 1) = false := by simpa using h1
    have H1 := Lib.hid h1
    clear h1
    go_upto_region 9 with fail
    obtain ⟨kk, hkk⟩ : ∃ kk, k1 = kk := ⟨_, rfl⟩
    rw [hkk]
    have HKK := Lib.hid (show (kd = 1 → kk = numK 0) ∧ (kk.size : Int) = (K : Int) from ⟨fun e => (H1.out e).elim, by rw [← hkk]; exact congrArg (Nat.cast (R := Int)) SK.out⟩)
    have HMM := Lib.hid HM.out
    obtain ⟨w6, hw6⟩ : ∃ w6, w5 = w6 := ⟨_, rfl⟩
    rw [hw6] at HMM ⊢
    clear hkk HM hw6
  all_goals
    clear c1 c3
    have hb := HB.out.kept HMM.out.2.2 (fun e => e)
    have c3 : w6.cell? ⟨q, 3, none⟩ = some (.int .i64 (V : Int)) := hb.c3
    clear hb
    go_wp2_with fail
    refine (FA.out w6).mono ?_
    rintro e w7 ⟨rfl, k7⟩
    have HM := Lib.hid (HMM.out.kept k7)
    have hb := HB.out.kept HM.out.2.2 (fun e => e)
    clear c3
    have c3 : w7.cell? ⟨q, 3, none⟩ = some (.int .i64 (V : Int)) := hb.c3
    clear hb k7
    go_wp2_with fail
    refine (FB.out w7).mono ?_
    rintro e w8 ⟨rfl, k8⟩
    have HM := Lib.hid (HM.out.kept k8)
    clear c3 k8
    obtain ⟨cc1, w9, hcv1, k9, b9, z9⟩ := bytes_made w8 kk
    obtain ⟨cc2, w10, hcv2, k10, b10, z10⟩ := bytes_made w9 a1
    have K10 := Lib.hid (k9.trans k10 (fun _ _ e => e))
    have B9 := Lib.hid (b9.kept k10 (fun _ _ _ e => e))
    have B10 := Lib.hid b10
    have Z := Lib.hid z9
    clear k9 k10 b9 b10 z9 z10
    go_wp2_with fail
    refine (in_first HM.out HE.out K10.out B9.out B10.out (by have := Z.out; omega) HKK.out.2 (congrArg (Nat.cast (R := Int)) SA.out) HKK.out.1).mono ?_
    rintro e w11 ⟨rfl, x, hxd, hin⟩
    have IN := Lib.hid hin
    have XD := Lib.hid hxd
    clear hin hxd hcv1 hcv2 K10 B9 B10 Z
    obtain ⟨cc1, w12, hcv1, k12, b12, z12⟩ := bytes_made w11 kk
    have K12 := Lib.hid k12
    have B12 := Lib.hid b12
    clear k12 b12 z12
    go_wp2_with fail
    refine (in_look IN.out K12.out B12.out).mono ?_
    rintro e w13 ⟨rfl, hin⟩
    have he := hin.en.1
    have hsl : w13.cell? ⟨x.b, 1, none⟩ = some (.slice (some ⟨x.d, 0, none⟩) V x.c) := by
      have := he.sl
      rw [XD.out, SA.out] at this
      exact this
    have hcd : (convert 34 9 (.slice (some ⟨x.d, 0, none⟩) V x.c)).run Try.prog w13 = .ok (.string a1) w13 := by
      have := he.data.conv (c := x.c)
      rw [XD.out, SA.out] at this
      exact this
    have hself := bytes_self a1
    have IN := Lib.hid hin
    clear hin he hcv1 K12 B12
    obtain ⟨cc2, w14, hcv1, k14, b14, z14⟩ := bytes_made w13 kk
    obtain ⟨cc3, w15, hcv2, k15, b15, z15⟩ := bytes_made w14 b1
    have K15 := Lib.hid (k14.trans k15 (fun _ _ e => e))
    have B14 := Lib.hid (b14.kept k15 (fun _ _ _ e => e))
    have B15 := Lib.hid b15
    have Z := Lib.hid z14
    clear k14 k15 b14 b15 z14 z15
    go_wp2_with fail
    refine (in_upd IN.out K15.out B14.out B15.out (by have := Z.out; omega) (congrArg (Nat.cast (R := Int)) SB.out) (.inr rfl)).mono ?_
    rintro e w16 ⟨rfl, hin⟩
    have he := hin.en.1
    have hcd : (convert 34 9 (.slice (some ⟨x.d, 0, none⟩) V x.c)).run Try.prog w16 = .ok (.string b1) w16 := by
      have := he.data.conv (c := x.c)
      rw [show ({ x with data := b1 } : En).data = b1 from rfl, SB.out] at this
      exact this
    have hself := bytes_self b1
    have IN := Lib.hid hin
    clear hin he hcv1 hcv2 K15 B14 B15 Z hsl
    have he := IN.out.en.1
    have hd0 : 0 < b1.size := by rw [SB.out]; exact hV1
    obtain ⟨u0, hu⟩ : ∃ u, w16.cell? ⟨x.d, 0, none⟩ = some u := he.drow.some (Nat.lt_of_lt_of_le hd0 he.le)
    have hfz : w16.frozen? ⟨x.d, 0, none⟩ = false := he.drow.frozen _
    have hp := in_poke IN.out (j := 0) hd0 119
    have HP := Lib.hid hp
    have hV0 : (0 : Int) < (V : Int) := by omega
    clear he hp
    go_upto_region 19 with fail
    generalize hw17 : w16.setCell ⟨x.d, 0, none⟩ (.int .u8 119) = w17
    have IN := Lib.hid (hw17 ▸ HP.out)
    clear hw17 HP hu hfz hcd hself
    obtain ⟨cc4, w18, hcv1, k18, b18, z18⟩ := bytes_made w17 kk
    have K18 := Lib.hid k18
    have B18 := Lib.hid b18
    clear k18 b18 z18
    go_wp2_with fail
    refine (in_look IN.out K18.out B18.out).mono ?_
    rintro e w19 ⟨rfl, hin⟩
    have he := hin.en.1
    have hps : (pokeB b1 0 119).size = V := by rw [pokeB_size, SB.out]
    have hsl : w19.cell? ⟨x.b, 1, none⟩ = some (.slice (some ⟨x.d, 0, none⟩) V x.c) := by
      have := he.sl
      rw [show ({ x with data := pokeB b1 0 119 } : En).data = pokeB b1 0 119 from rfl, hps] at this
      exact this
    have hky : w19.cell? ⟨x.b, 0, none⟩ = some (.string kk) := by
      have := he.key
      rw [hin.en.2.2.1] at this
      exact this
    have hcl : w19.cell? ⟨x.d, 0, none⟩ = some (.int .u8 119) := by
      have := he.bytes 0 (by show 0 < (pokeB b1 0 119).size; omega)
      rw [show ({ x with data := pokeB b1 0 119 } : En).data = pokeB b1 0 119 from rfl, pokeB_nums _ _ _ _ hd0] at this
      exact this
    have hself := bytes_self kk
    have IN := Lib.hid hin
    have hb := HB.out.kept hin.back (fun e => e)
    have c1 : w19.cell? ⟨q, 1, none⟩ = some (.int .i64 kd) := hb.c1
    clear hin he hcv1 K18 B18 hps hb
    go_upto_region 22 with fail
    clear hsl hky hcl hself
  · obtain ⟨cc5, w20, hcv1, k20, b20, z20⟩ := bytes_made w19 kk
    have K20 := Lib.hid k20
    have B20 := Lib.hid b20
    clear k20 b20 z20
    go_wp2_with fail
    refine (in_del IN.out H1.out K20.out B20.out).mono ?_
    rintro e w21 ⟨rfl, hout⟩
    have OUT := Lib.hid hout
    clear hout hcv1 K20 B20 c1
    obtain ⟨cc6, w22, hcv1, k22, b22, z22⟩ := bytes_made w21 kk
    obtain ⟨cc7, w23, hcv2, k23, b23, z23⟩ := bytes_made w22 a1
    have K23 := Lib.hid (k22.trans k23 (fun _ _ e => e))
    have B22 := Lib.hid (b22.kept k23 (fun _ _ _ e => e))
    have B23 := Lib.hid b23
    have Z := Lib.hid z22
    clear k22 k23 b22 b23 z22 z23
    go_wp2_with fail
    refine (out_put OUT.out H1.out K23.out B22.out B23.out (by have := Z.out; omega) HKK.out.2 (congrArg (Nat.cast (R := Int)) SA.out)).mono ?_
    rintro e w24 ⟨rfl, z, hzd, htwo⟩
    have he := htwo.choose_spec.choose_spec.2.2.1
    have hcl : w24.cell? ⟨x.d, 0, none⟩ = some (.int .u8 119) := by
      have := he.bytes 0 (by show 0 < (pokeB b1 0 119).size; rw [pokeB_size]; exact hd0)
      rw [show ({ x with data := pokeB b1 0 119 } : En).data = pokeB b1 0 119 from rfl, pokeB_nums _ _ _ _ hd0] at this
      exact this
    have hfz : w24.frozen? ⟨x.d, 0, none⟩ = false := he.drow.frozen _
    have TWO := Lib.hid htwo
    have ZD := Lib.hid hzd
    clear htwo he hcv1 hcv2 K23 B22 B23 Z hzd
    go_upto_region 27 with fail
    have HP := Lib.hid (two_poke TWO.out (.int .u8 120) 0)
    generalize hw25 : w24.setCell ⟨x.d, 0, none⟩ (.int .u8 120) = w25
    have IN := Lib.hid (hw25 ▸ HP.out)
    clear hw25 HP hcl hfz
    obtain ⟨cc8, w26, hcv1, k26, b26, z26⟩ := bytes_made w25 kk
    have K26 := Lib.hid k26
    have B26 := Lib.hid b26
    clear k26 b26 z26
    go_wp2_with fail
    refine (in_look IN.out K26.out B26.out).mono ?_
    rintro e w27 ⟨rfl, hin⟩
    have he := hin.en.1
    have hsl : w27.cell? ⟨z.b, 1, none⟩ = some (.slice (some ⟨z.d, 0, none⟩) V z.c) := by
      have := he.sl
      rw [ZD.out, SA.out] at this
      exact this
    have hcd : (convert 34 9 (.slice (some ⟨z.d, 0, none⟩) V z.c)).run Try.prog w27 = .ok (.string a1) w27 := by
      have := he.data.conv (c := z.c)
      rw [ZD.out, SA.out] at this
      exact this
    have hself := bytes_self a1
    have IN := Lib.hid hin
    clear hin he hcv1 K26 B26
    go_wp2_with fail
    go_ret
    exact ⟨rfl, K3.out.trans IN.out.back (fun _ _ e => e)⟩
  · go_wp2_with fail
    go_ret
    exact ⟨rfl, K3.out.trans IN.out.back (fun _ _ e => e)⟩
end Go.Proofs.Ytalahbmahpgkeaa
