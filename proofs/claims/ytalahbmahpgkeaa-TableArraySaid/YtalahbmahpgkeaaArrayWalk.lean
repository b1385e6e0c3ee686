/- TableArray, walked. -/
import Derived.Test.YtalahbmahpgkeaaTblF
import Derived.Test.YtalahbmahpgkeaaArrLaw
import Derived.Test.YtalahbmahpgkeaaTblE
import Derived.Test.YtalahbmahpgkeaaGenD
import Derived.Test.YtalahbmahpgkeaaHeld
import Derived.Deep.CutBlock
import Derived.Deep.RegionHeld3
namespace Go.Proofs.Ytalahbmahpgkeaa
set_option linter.unusedVariables false
set_option linter.unusedSimpArgs false
open Go.RowKit Go.MapKept

theorem array_map (value most : Int) : ∃ V N : Nat, 1 ≤ V ∧ V ≤ 8 ∧ 1 ≤ N ∧ N ≤ 12 ∧ smallM 0 0 value most = arrM V N := by
  obtain ⟨K, Y, V, X, h1, h2, h3, h4, e1, e2, e3, e4⟩ := small_nums 0 0 value most
  refine ⟨1 + V, 1 + X, by omega, by omega, by omega, by omega, ?_⟩
  have e1 : (bits .and .i64 0 255).tmod 3 = 0 := by decide
  unfold smallM arrM
  rw [e1, e3, e4]
  rw [if_pos rfl]
  simp only [TM.mk.injEq, true_and]
  refine ⟨rfl, by omega, by omega⟩
theorem array_right (V N : Nat) (h1 : 1 ≤ V) (h2 : V ≤ 8) (h3 : 1 ≤ N) (h4 : N ≤ 12) : (arrM V N).right = true := by
  show rightB ⟨#[109]⟩ 1 4 (V : Int) (N : Int) = true
  exact (rightB_iff _ _ _ _ _).2 ⟨by decide, by omega, by omega, by omega, by omega, fun e => by omega, by omega, by omega, by omega, by omega⟩

/-- A box that counts. -/
def CountIn (ib : Nat) (k : Nat) (U : Nat → Prop) (W : World) : Prop := Box W ib (.int .i64 (k : Int)) ∧ U ib
theorem CountIn.kept {ib k : Nat} {U : Nat → Prop} {W W' : World} (h : CountIn ib k U W) (q : Kept (fun b => ¬ U b) W W') : CountIn ib k U W' := ⟨h.1.kept q (fun e => e h.2), h.2⟩

set_option maxRecDepth 100000 in
set_option maxHeartbeats 4000000 in
theorem tableArray_any (value most n0 : Int) (v0 : ByteArray) (W : World) (hs0 : v0.size ≤ 9223372036854775807) :
    Calls Try.prog 10 #[.int .i64 value, .int .i64 most, .int .i64 n0, .string v0] W fun e w' => e = .returned (.bool true) ∧ Kept (fun _ => False) W w' := by
  obtain ⟨V, N, hV1, hV8, hN1, hN12, hM⟩ := array_map value most
  obtain ⟨x, hx, hx32⟩ := mask_nat n0 5 (by omega) 31 (by decide)
  have hsa := small_any 0 0 value most
  rw [hM] at hsa
  have HR := Lib.hid (array_right V N hV1 hV8 hN1 hN12)
  have HSA := Lib.hid hsa
  clear hsa hM
  simp only [TM.v, arrM] at HSA
  have FV := Lib.hid (fun w => fit_any v0 V hs0 (by omega) w)
  have hx32 : x < 32 := by simpa using hx32
  refine callsIn_WR (ro := none) (n := 0).1 (callsIn_of_wp_marks Try.func10 rfl trivial ?_ rfl)
  simp only [Try.ntmps10, List.size_toArray, List.length_cons, List.length_nil, Nat.reduceAdd, Nat.reduceSub, Array.replicate_succ, Array.replicate_zero, List.push_toArray, List.append_toArray, List.nil_append, List.cons_append]
  gi_wp2_with fail
  obtain ⟨W1, hW1⟩ : ∃ W1, W1 = ((W.alloc (.cells #[.int .i64 n0] 3)).alloc (.cells #[.string v0] 9)).alloc (.cells #[.bool false] 4) := ⟨_, rfl⟩
  have NB := Lib.hid (show Box W1 W.heap.size (.int .i64 n0) from by rw [hW1]; exact ((Box.new W _ _).alloc _).alloc _)
  have VB := Lib.hid (show Box W1 (W.heap.size + 1) (.string v0) from by rw [hW1]; have := (Box.new (W.alloc (.cells #[.int .i64 n0] 3)) (.string v0) 9).alloc (.cells #[.bool false] 4); rwa [World.size_alloc] at this)
  have RB := Lib.hid (show Box W1 (W.heap.size + 1 + 1) (.bool false) from by rw [hW1]; have := Box.new ((W.alloc (.cells #[.int .i64 n0] 3)).alloc (.cells #[.string v0] 9)) (.bool false) 4; rwa [World.size_alloc, World.size_alloc] at this)
  have K0 := Lib.hid (show Kept (fun _ => False) W W1 from by rw [hW1]; exact (((Kept.refl _ W).alloc _).alloc _).alloc _)
  rw [← hW1]
  clear hW1
  obtain ⟨nb, hnb⟩ : ∃ nb, W.heap.size = nb := ⟨_, rfl⟩
  rw [hnb] at NB VB RB ⊢
  refine callsIn_WR.2 ((shown_any W1).mono ?_)
  rintro e w1 ⟨rfl, k1⟩
  have K1 := Lib.hid k1
  clear k1
  gi_wp2_with fail
  refine callsIn_WR.2 ((HSA.out w1).mono ?_)
  rintro e w2 ⟨rfl, k2⟩
  have K2 := Lib.hid (K1.out.trans k2 (fun _ _ e => e))
  clear k2
  gi_wp2_with fail
  obtain ⟨q, hq⟩ : ∃ q, q = w2.heap.size := ⟨_, rfl⟩
  obtain ⟨W0, hW0⟩ : ∃ W0, W0 = w2.alloc (.cells #[.string ⟨#[109]⟩, .int .i64 1, .int .i64 4, .int .i64 (V : Int), .int .i64 (N : Int)] 23) := ⟨_, rfl⟩
  have HB := Lib.hid (show MBox W0 q (arrM V N) from by rw [hW0, hq]; exact MBox.new w2 (arrM V N) 23)
  have KW := Lib.hid (show Kept (fun _ => False) W1 W0 from K2.out.trans (by rw [hW0]; exact Kept.one_alloc _ _) (fun _ _ e => e))
  rw [← hW0, ← hq]
  have NEW := Lib.hid (show Calls Try.prog 14 #[.agg #[.string ⟨#[109]⟩, .int .i64 1, .int .i64 4, .int .i64 (V : Int), .int .i64 (N : Int)]] W0 _ from by have h := ses_new HR.out W0; exact h)
  have hqW : W1.heap.size ≤ q := by rw [hq]; exact K2.out.size
  clear K1 K2 hW0 hq
  refine callsIn_WR.2 (NEW.out.mono ?_)
  rintro e w4 ⟨bt, rfl, hs1, k4⟩
  rw [ary_new V N x] at hs1
  have S1 := Lib.hid (And.intro hs1 k4)
  have kw4 := KW.out.trans k4 (fun _ _ e => e)
  have nb4 := NB.out.kept kw4 (fun e => e)
  have hcn := nb4.cell
  have hfn := nb4.frozen
  clear hs1 k4 NEW nb4 kw4
  gi_wp2_with fail
  obtain ⟨w5, hw5⟩ : ∃ w5, w5 = w4.setCell ⟨nb, 0, none⟩ (.int .i64 (x : Int)) := ⟨_, rfl⟩
  have k45 : Kept (fun b => b = nb) w4 w5 := by rw [hw5]; exact Kept.one_set w4 ⟨nb, 0, none⟩ (.int .i64 (x : Int))
  have nb5 : Box w5 nb (.int .i64 (x : Int)) := by rw [hw5]; exact ((NB.out.kept KW.out (fun e => e)).kept S1.out.2 (fun e => e)).set _
  rw [← hw5]
  clear hw5 hcn hfn
  refine callsIn_WR.2 ((rnumbered_any x (by omega) w5).mono ?_)
  rintro e w6 ⟨rfl, k6⟩
  obtain ⟨cc, w7, hcv, k7, b7, z7⟩ := bytes_made w6 (numK x)
  obtain ⟨kx, hkx⟩ : ∃ kx, w6.heap.size = kx := ⟨_, rfl⟩
  rw [hkx] at hcv b7
  have k57 := k6.trans k7 (fun _ _ e => e)
  have k47 : Kept (fun b => b = nb) w4 w7 := k45.trans k57 (fun _ _ e => e.elim)
  have hkx0 : W0.heap.size ≤ kx ∧ kx < w7.heap.size ∧ w4.heap.size ≤ kx := by have := S1.out.2.size; have := k45.size; have := k6.size; omega
  have hq0 := HB.out.row.lt
  have hrb1 : nb + 1 + 1 < W1.heap.size := RB.out.lt
  have hW01 := KW.out.size
  have S7 : Ses (arrM V N) bt (arrP V N x (zeroB V)) (fun b => W0.heap.size ≤ b ∧ b ≠ kx) w7 := (S1.out.1.kept k47 (fun b hb e => by omega)).mono (fun b hb => ⟨hb.1, by omega⟩)
  have m7 : MBox w7 q (arrM V N) := (HB.out.kept S1.out.2 (fun e => e)).kept k47 (fun e => by omega)
  have vb7 : Box w7 (nb + 1) (.string v0) := ((VB.out.kept KW.out (fun e => e)).kept S1.out.2 (fun e => e)).kept k47 (fun e => by omega)
  have rb7 : Box w7 (nb + 1 + 1) (.bool false) := ((RB.out.kept KW.out (fun e => e)).kept S1.out.2 (fun e => e)).kept k47 (fun e => by omega)
  have nb7 := nb5.kept k57 (fun e => e)
  have kW7 : Kept (fun _ => False) W w7 := ((K0.out.trans KW.out (fun _ _ e => e)).trans S1.out.2 (fun _ _ e => e)).trans k47 (fun b hb e => by omega)
  have H7 := Lib.hid (And.intro S7 (And.intro m7 (And.intro vb7 (And.intro rb7 (And.intro nb7 (And.intro kW7 b7))))))
  have hcv3 : w7.cell? ⟨q, 3, none⟩ = some (.int .i64 (V : Int)) := m7.c3
  have hcvb := vb7.cell
  have SZ := Lib.hid (And.intro hkx0 (And.intro hq0 (And.intro hrb1 (And.intro hW01 hqW))))
  clear S7 m7 vb7 rb7 nb7 kW7 b7 k57 k47 hkx hkx0 hq0 hrb1 hW01 k45 k6 k7 nb5 z7 hqW
  gi_wp2_with fail
  refine callsIn_WR.2 ((FV.out w7).mono ?_)
  rintro e w8 ⟨rfl, k8⟩
  have vb8 := H7.out.2.2.1.kept k8 (fun e => e)
  have hcvb8 := vb8.cell
  have hfvb8 := vb8.frozen
  obtain ⟨u, hu⟩ : ∃ u, fitB v0 V = u := ⟨_, rfl⟩
  have hus : u.size = V := by rw [← hu]; exact fitB_size _ _
  rw [hu]
  have V8 := Lib.hid (And.intro k8 vb8)
  have US := Lib.hid hus
  clear hcv hcv3 hcvb k8 vb8 hu hus
  gi_wp2_with fail
  obtain ⟨B, hB⟩ : ∃ B, B = w8.setCell ⟨nb + 1, 0, none⟩ (.string u) := ⟨_, rfl⟩
  have kB : Kept (fun b => b = nb + 1) w8 B := by rw [hB]; exact Kept.one_set w8 ⟨nb + 1, 0, none⟩ (.string u)
  have vbB : Box B (nb + 1) (.string u) := by rw [hB]; exact V8.out.2.set _
  rw [← hB]
  obtain ⟨⟨hx1, hx2, hx3⟩, hq0, hrb1, hW01, hqW⟩ := SZ.out
  obtain ⟨S7, m7, vb7, rb7, nb7, kW7, b7⟩ := H7.out
  have k7B : Kept (fun b => b = nb + 1) w7 B := (V8.out.1.mono fun _ _ e => e.elim).trans kB (fun _ _ e => e)
  have BASE := Lib.hid (show Ses (arrM V N) bt (arrP V N x (zeroB V)) (fun b => W0.heap.size ≤ b ∧ b ≠ kx) B ∧ MBox B q (arrM V N) ∧ Box B nb (.int .i64 (x : Int)) ∧ Box B (nb + 1) (.string u) ∧ Box B (nb + 1 + 1) (.bool false) ∧ BytesAt B (some ⟨kx, 0, none⟩) (numK x).size (numK x) ∧ Kept (fun _ => False) W B ∧ kx < B.heap.size from
    ⟨S7.kept k7B (fun b hb e => by omega), m7.kept k7B (fun e => by omega), nb7.kept k7B (fun e => by omega), vbB, rb7.kept k7B (fun e => by omega), b7.kept k7B (fun b o e h => by cases e; omega), kW7.trans k7B (fun b hb e => by omega), Nat.lt_of_lt_of_le hx2 k7B.size⟩)
  have HERE := Lib.hid (show ∀ w, Kept (fun b => W0.heap.size ≤ b ∧ b ≠ kx) B w → MBox w q (arrM V N) ∧ Box w nb (.int .i64 (x : Int)) ∧ Box w (nb + 1) (.string u) ∧ Box w (nb + 1 + 1) (.bool false) ∧ BytesAt w (some ⟨kx, 0, none⟩) (numK x).size (numK x) ∧ Kept (fun _ => False) W w ∧ kx < w.heap.size from fun w k => by
    obtain ⟨-, h2, h3, h4, h5, h6, h7, h8⟩ := BASE.out
    exact ⟨h2.kept k (fun e => by omega), h3.kept k (fun e => by omega), h4.kept k (fun e => by omega), h5.kept k (fun e => by omega), h6.kept k (fun b o e h => by cases e; omega), h7.trans k (fun b hb e => by have := K0.out.size; omega), Nat.lt_of_lt_of_le h8 k.size⟩)
  clear hB kB vbB k7B S7 m7 vb7 rb7 nb7 kW7 b7 hcvb8 hfvb8 V8 H7 hx1 hx2 hx3 hq0 hrb1 hW01 hqW
  obtain ⟨c1, c2, c3, LAW, hc3, hP3, hin, hout⟩ := ary_law V N x u (by omega) (by omega) US.out
  obtain ⟨l1, l2, l3, l4⟩ := LAW _ rfl
  have PL := Lib.hid (And.intro l1 (And.intro l2 (And.intro l3 (And.intro l4 (And.intro hc3 (And.intro hP3 (And.intro hin hout)))))))
  clear LAW hc3 hP3 hin hout l1 l2 l3 l4
  refine callsIn_WR.2 ((ses_look BASE.out.1 (.refl _ _) BASE.out.2.2.2.2.2.1).mono ?_)
  rintro e w9 ⟨y9, rfl, hs9, -, k9⟩
  rw [ary_use] at hs9
  obtain ⟨isb, hisb⟩ : ∃ isb, (lookP (numK x) (arrP V N x (zeroB V))).isSome = isb := ⟨_, rfl⟩
  rw [hisb]
  have ISB := Lib.hid hisb
  have S9 := Lib.hid (And.intro hs9 k9)
  have hcvb := (HERE.out w9 k9).2.2.1.cell
  obtain ⟨cA, w10, hcvA, k10, b10, z10⟩ := bytes_made w9 u
  have S10 := Lib.hid (And.intro k10 (And.intro b10 (HERE.out w9 k9).2.2.2.2.1))
  clear hs9 k9 hisb k10 b10 z10
  gi_wp2_with fail
  refine callsIn_WR.2 ((ses_upd S9.out.1 S10.out.1 (S10.out.2.2.kept S10.out.1 (fun _ _ _ e => e)) S10.out.2.1 (fun b o e => .inr (by cases e; omega))).mono ?_)
  rintro e w11 ⟨rfl, hs11, k11⟩
  rw [PL.out.1]
  rw [PL.out.2.1] at hs11
  have S11 := Lib.hid (show Ses (arrM V N) bt (arrP V N x (zeroB V)) (fun b => W0.heap.size ≤ b ∧ b ≠ kx) w11 ∧ Kept (fun b => W0.heap.size ≤ b ∧ b ≠ kx) B w11 from
    ⟨hs11.mono (fun b hb => hb.elim id (fun h => by have := S9.out.2.size; have := BASE.out.2.2.2.2.2.2.2; have := SZ.out.1; omega)), (S9.out.2.trans S10.out.1 (fun _ _ e => e.elim)).trans k11 (fun _ _ e => e)⟩)
  clear hcvA hcvb hs11 k11
  have hcvb := (HERE.out w11 S11.out.2).2.2.1.cell
  obtain ⟨cB, w12, hcvB, k12, b12, z12⟩ := bytes_made w11 u
  have S12 := Lib.hid (And.intro k12 (And.intro b12 (HERE.out w11 S11.out.2).2.2.2.2.1))
  clear k12 b12 z12
  gi_wp2_with fail
  refine callsIn_WR.2 ((ses_upd S11.out.1 S12.out.1 (S12.out.2.2.kept S12.out.1 (fun _ _ _ e => e)) S12.out.2.1 (fun b o e => .inr (by cases e; omega))).mono ?_)
  rintro e w13 ⟨rfl, hs13, k13⟩
  rw [PL.out.2.2.1]
  rw [PL.out.2.2.2.1] at hs13
  have S13 := Lib.hid (show Ses (arrM V N) bt (arrP V N x u) (fun b => W0.heap.size ≤ b ∧ b ≠ kx) w13 ∧ Kept (fun b => W0.heap.size ≤ b ∧ b ≠ kx) B w13 from
    ⟨hs13.mono (fun b hb => hb.elim id (fun h => by have := S11.out.2.size; have := BASE.out.2.2.2.2.2.2.2; have := SZ.out.1; omega)), (S11.out.2.trans S12.out.1 (fun _ _ e => e.elim)).trans k13 (fun _ _ e => e)⟩)
  clear hcvB hcvb hs13 k13
  have hcvb := (HERE.out w13 S13.out.2).2.2.1.cell
  obtain ⟨cC, w14, hcvC, k14, b14, z14⟩ := bytes_made w13 u
  have S14 := Lib.hid (And.intro k14 (And.intro b14 (HERE.out w13 S13.out.2).2.2.2.2.1))
  clear k14 b14 z14
  gi_wp2_with fail
  refine callsIn_WR.2 ((ses_upd S13.out.1 S14.out.1 (S14.out.2.2.kept S14.out.1 (fun _ _ _ e => e)) S14.out.2.1 (fun b o e => .inr (by cases e; omega))).mono ?_)
  rintro e w15 ⟨rfl, hs15, k15⟩
  rw [PL.out.2.2.2.2.1]
  rw [PL.out.2.2.2.2.2.1] at hs15
  have S15 := Lib.hid (show Ses (arrM V N) bt (arrP V N x u) (fun b => W0.heap.size ≤ b ∧ b ≠ kx) w15 ∧ Kept (fun b => W0.heap.size ≤ b ∧ b ≠ kx) B w15 from
    ⟨hs15.mono (fun b hb => hb.elim id (fun h => by have := S13.out.2.size; have := BASE.out.2.2.2.2.2.2.2; have := SZ.out.1; omega)), (S13.out.2.trans S14.out.1 (fun _ _ e => e.elim)).trans k15 (fun _ _ e => e)⟩)
  clear hcvC hcvb hs15 k15
  gi_wp2_with fail
  obtain ⟨iv, E, F0, hT15, hE, hF15⟩ := S15.out.1
  refine callsIn_WR.2 ((lookup_any hT15 (HERE.out w15 S15.out.2).2.2.2.2.1).mono ?_)
  rintro e w16 ⟨rfl, ⟨F, hT16, hFF⟩, k16⟩
  rw [useT_same (m := arrM V N) (by show ¬ (1 : Int) = 3; decide)] at hT16
  have k16' : Kept (fun b => W0.heap.size ≤ b ∧ b ≠ kx) B w16 := S15.out.2.trans k16 (fun b _ e => hF15 b (.inr (.inl e)))
  have S16 := Lib.hid (And.intro hT16 (And.intro k16' (And.intro (show ∀ b, Tfp bt E F b → (W0.heap.size ≤ b ∧ b ≠ kx) ∧ b < w16.heap.size from fun b hb => ⟨hF15 b (hb.imp id (fun h => h.imp (hFF b) id)), hT16.lt b hb⟩) (And.intro hE (HERE.out w16 k16')))))
  obtain ⟨o, ho⟩ : ∃ o, lookT (numK x) E = o := ⟨_, rfl⟩
  rw [ho]
  have HO := Lib.hid ho
  clear hT15 hE hF15 hT16 hFF k16 k16' ho
  gi_wp2_with fail
  obtain ⟨ib, hib⟩ : ∃ ib, w16.heap.size = ib := ⟨_, rfl⟩
  obtain ⟨w17, hw17⟩ : ∃ w17, w17 = w16.alloc (.cells #[.int .i64 0] 3) := ⟨_, rfl⟩
  have k17 : Kept (fun _ => False) w16 w17 := by rw [hw17]; exact Kept.one_alloc _ _
  have ib17 : Box w17 ib (.int .i64 ((0 : Nat) : Int)) := by rw [hw17, ← hib]; exact Box.new w16 _ _
  rw [← hw17, hib]
  clear hw17
  obtain ⟨hT, -, hF, hE, -⟩ := S16.out
  refine callsIn_WR.2 ((all_any bt w17).mono ?_)
  rintro e W6 ⟨bx, rfl, hbx, k6, g6⟩
  have hnf := run_eq_nilFunc (P := Try.prog) W6 (.func 38) #[] #[.pointer (some ⟨bx, 0, none⟩)] Try.underlying48
  have hT6 := hT.kept (k17.trans k6 (fun _ _ e => e)) (fun _ _ e => e)
  have hRd : AllRd bx bt (arrM V N) iv E F W6 := ⟨hbx.cell, hbx.lt, hT6.allR⟩
  have hDF : ∀ b, AllD bt E F b → b < ib := fun b hb => by rw [← hib]; exact (hF b (hb.imp id (fun h => h.imp id (fun ⟨x, hx, e⟩ => ⟨x, hx, .inl e⟩)))).2
  have hxd : ∀ x ∈ E, x.b < ib ∧ x.d < ib := fun x hx => by rw [← hib]; exact ⟨(hF _ (.inr (.inr ⟨x, hx, .inl rfl⟩))).2, (hF _ (.inr (.inr ⟨x, hx, .inr rfl⟩))).2⟩
  have H6 := Lib.hid (And.intro hRd (And.intro hDF (And.intro hxd (And.intro hT6 (And.intro (ib17.kept k6 (fun e => e)) (And.intro k17 (And.intro k6 (And.intro g6 (And.intro hib hE)))))))))
  have hiblt := ib17.lt
  clear hT hF hRd hDF hxd hT6 hbx ib17 k17 k6 hib hE
  gi_wp2_with fail
  obtain ⟨hRd, hDF, hxd, hT6, ib6, k17, k6, g6', hib, hE⟩ := H6.out
  have hord : ordT (arrM V N) E = E := by unfold ordT; rw [if_neg (by show ¬ (1 : Int) = 2; decide)]
  refine wpW_rangeG (all1_any bx bt (arrM V N) iv E F) rfl all_enters (fun _ => by rfl) (fun (pre : List En) U W' => CountIn ib pre.length U W') (fun _ _ _ => False) (fun b => b = ib)
    (fun (pre : List En) U W W' h k => CountIn.kept h k) (fun _ _ _ _ h _ => h) ?_ ?_ ?_ hRd (fun W W' h k => h.kept k (fun e => e (.inl rfl)) (fun b hb e => e (.inr hb))) ⟨ib6, rfl⟩ ?_ ?_ (fun _ _ _ _ h => h.elim)
  · rintro b rfl (h | h)
    · omega
    · have := hDF _ h
      omega
  · rintro b (rfl | h)
    · exact hRd.2.1
    · exact hRd.2.2.dlt b h
  · rintro b rfl
    exact ib6.lt
  · intro l pre e rest U' W7 hitems hi hkw hlt' hD' hRd' hl hlD hlW hlw hUU
    rw [hord] at hitems
    have hat := ary_at (by rw [hitems]; exact hE)
    have heE : e ∈ E := by rw [← hitems]; simp
    have hen7 : EnAt W7 e := (hT6.en e heE).kept hkw (fun h => by have := (hxd e heE).1; have h : e.b = ib := h; omega) (fun h => by have := (hxd e heE).2; have h : e.d = ib := h; omega)
    have hlib : ib < l := by have := k6.size; omega
    have k67 : Kept (fun b => b = ib) w16 W7 := ((k17.trans k6 (fun _ _ e => e)).mono fun _ _ e => e.elim).trans hkw (fun _ _ e => e)
    have LK := Lib.hid (And.intro hat (And.intro hen7 (And.intro hlt' (And.intro hlib (And.intro (hxd e heE) (And.intro k67 hl))))))
    have HI := Lib.hid hi
    clear hat heE hen7 hlib hi hlt' hD' hRd' hlD hkw hitems hRd hDF hxd hT6 k6 k17 hnf g6' hE hib ib6 k67 hl
    simp only [encE, List.zip_toArray, List.zip_cons_cons, List.zip_nil_left, List.foldl_toArray', List.foldl_cons, List.foldl_nil, List.setIfInBounds_toArray, List.set_cons_succ, List.set_cons_zero]
    gi_wp2_with (rw [Oper.semAt_eq _ _ _ (fun c h => by cases h)]; go_simp; try go_bits)
    refine ⟨trivial, ?_⟩
    intro W8 kl zl
    obtain ⟨⟨hjN, hek, hed⟩, hen7, hlt', hlib, hxdlt, k67, hl⟩ := LK.out
    have hi8 := HI.out.kept (kl.mono fun b _ e h => by subst e; exact hl h)
    obtain ⟨j, hj⟩ : ∃ j, pre.length = j := ⟨_, rfl⟩
    rw [hj] at hjN hek hed hi8
    have k68 : Kept (fun b => b = ib ∨ b = l) w16 W8 := (k67.mono fun _ _ e => .inl e).trans kl (fun _ _ e => .inr e)
    have hen8 : EnAt W8 e := hen7.kept kl (by omega) (by omega)
    have CELLS : ∀ w', Kept (fun _ => False) W8 w' → w'.cell? ⟨ib, 0, none⟩ = some (.int .i64 (j : Int)) ∧ w'.cell? ⟨nb, 0, none⟩ = some (.int .i64 (x : Int)) ∧ w'.cell? ⟨nb + 1, 0, none⟩ = some (.string u) ∧ w'.cell? ⟨q, 3, none⟩ = some (.int .i64 (V : Int)) ∧
        (convert 34 9 (.slice (some ⟨e.d, 0, none⟩) e.data.size e.c)).run Try.prog w' = .ok (.string e.data) w' := fun w' k => by
      have k2 := k68.trans k (fun _ _ e => e.elim)
      obtain ⟨m16, n16, v16, -, -, -, -⟩ := S16.out.2.2.2.2
      have hq0 := SZ.out.2.1
      have hrb := SZ.out.2.2.1
      have hW01 := SZ.out.2.2.2.1
      have hkw := S16.out.2.1.size
      have hb := BASE.out.2.2.2.2.2.2.2
      have hx0 := SZ.out.1
      have hi := H6.out.2.2.2.2.2.2.2.2.1
      exact ⟨(hi8.1.kept k (fun e => e)).cell, (n16.kept k2 (fun e => by omega)).cell, (v16.kept k2 (fun e => by omega)).cell, (m16.kept k2 (fun e => by omega)).c3, ((hen8.kept k (fun e => e) (fun e => e)).data).conv⟩
    obtain ⟨D, hD⟩ : ∃ D, e.data = D := ⟨_, rfl⟩
    rw [hD] at CELLS hed ⊢
    rw [hek]
    have NUMB := Lib.hid (show ∀ W', Kept (fun _ => False) W8 W' → Calls Try.prog 21 #[.int .i64 (j : Int)] W' fun e w' => e = .returned (.string (numK j)) ∧ Kept (fun _ => False) W8 w' from fun W' k => (rnumbered_any j (by omega) W').mono (by rintro e w' ⟨rfl, k'⟩; exact ⟨rfl, k.trans k' (fun _ _ e => e)⟩))
    have CELLS := Lib.hid CELLS
    have ci := (CELLS.out W8 (.refl _ _)).1
    by_cases hjx : j = x
    · have hjx := hjx.symm
      subst hjx
      rw [if_pos rfl] at hed
      have hed := hed.symm
      subst hed
      clear hek hen7 k67 hen8
      gi_wp2_with (rw [Oper.semAt_eq _ _ _ (fun c h => by cases h)]; go_simp; try go_bits)
      refine wpW_region_held (S := fun w' => w'.cell? ⟨ib, 0, none⟩ = some (.int .i64 (x : Int)) ∧ w'.cell? ⟨nb, 0, none⟩ = some (.int .i64 (x : Int)) ∧ w'.cell? ⟨nb + 1, 0, none⟩ = some (.string u) ∧ w'.cell? ⟨q, 3, none⟩ = some (.int .i64 (V : Int)) ∧ (convert 34 9 (.slice (some ⟨e.d, 0, none⟩) u.size e.c)).run Try.prog w' = .ok (.string u) w') (by kernel_rfl) (by kernel_rfl) (by rintro ⟨_, _, h⟩; first | exact h.elim | (obtain ⟨h1, -⟩ := h; cases h1)) ?_ (fun hHeld => ?_)
      · exact CELLS.out _ ((Kept.refl _ _).twin ⟨rfl, rfl, rfl, rfl⟩)
      refine held_take 0 (oi := _) (v := ?_) rfl (by kernel_rfl) (by kernel_rfl) (by kernel_rfl) (fun _ _ _ h => h) (by rfl) (fun w hSw => ?_) (by assumption) ?_
      rotate_left
      · (try dsimp only at hSw); go_simp; try with_reducible rfl
      try simp only [Act.put, List.setIfInBounds_toArray, List.set_cons_zero, List.set_cons_succ]
      refine held_take 1 (oi := _) (v := ?_) rfl (by kernel_rfl) (by kernel_rfl) (by kernel_rfl) (fun _ _ _ h => h) (by rfl) (fun w hSw => ?_) (by assumption) ?_
      rotate_left
      · (try dsimp only at hSw); go_simp; try with_reducible rfl
      try simp only [Act.put, List.setIfInBounds_toArray, List.set_cons_zero, List.set_cons_succ]
      refine wpAnyH_ready (rs := [2]) (by kernel_rfl) (by simp) ?_
      refine held_cons 2 (o := _) rfl (fun KC hKC => ?_) AllReadyH.nil
      go_simp
      with_reducible refine Calls.mono (NUMB.out _ ?_) ?_
      · exact (Kept.refl _ _).twin ⟨rfl, rfl, rfl, rfl⟩
      rintro e1 wA ⟨rfl, kA⟩
      have KA := Lib.hid kA
      clear kA
      dsimp only
      refine hKC.out _ _ ?_ (fun hHeld => ?_)
      · first | exact CELLS.out _ KA.out | exact CELLS.out _ (KA.out.alloc _)
      clear hKC KC
      try simp only [Act.put, List.setIfInBounds_toArray, List.set_cons_zero, List.set_cons_succ]
      refine held_take 3 (oi := _) (v := ?_) rfl (by kernel_rfl) (by kernel_rfl) (by kernel_rfl) (fun _ _ _ h => h) (by rfl) (fun w hSw => ?_) (by assumption) ?_
      rotate_left
      · (try dsimp only at hSw); go_simp; try with_reducible rfl
      try simp only [Act.put, List.setIfInBounds_toArray, List.set_cons_zero, List.set_cons_succ]
      refine held_take 4 (oi := _) (v := ?_) rfl (by kernel_rfl) (by kernel_rfl) (by kernel_rfl) (fun _ _ _ h => h) (by rfl) (fun w hSw => ?_) (by assumption) ?_
      rotate_left
      · (try dsimp only at hSw); go_simp; try with_reducible rfl
      try simp only [Act.put, List.setIfInBounds_toArray, List.set_cons_zero, List.set_cons_succ]
      refine held_take 5 (oi := _) (v := ?_) rfl (by kernel_rfl) (by kernel_rfl) (by kernel_rfl) (fun _ _ _ h => h) (by rfl) (fun w hSw => ?_) (by assumption) ?_
      rotate_left
      · (try dsimp only at hSw); go_simp; try with_reducible rfl
      try simp only [Act.put, List.setIfInBounds_toArray, List.set_cons_zero, List.set_cons_succ]
      refine held_take 6 (oi := _) (v := ?_) rfl (by kernel_rfl) (by kernel_rfl) (by kernel_rfl) (fun _ _ _ h => h) (by rfl) (fun w hSw => ?_) (by assumption) ?_
      rotate_left
      · (try dsimp only at hSw); go_simp; try with_reducible rfl
      try simp only [Act.put, List.setIfInBounds_toArray, List.set_cons_zero, List.set_cons_succ]
      refine held_take 7 (oi := _) (v := ?_) rfl (by kernel_rfl) (by kernel_rfl) (by kernel_rfl) (fun _ _ _ h => h) (by rfl) (fun w hSw => ?_) (by assumption) ?_
      rotate_left
      · (try dsimp only at hSw); go_simp; try with_reducible rfl
      try simp only [Act.put, List.setIfInBounds_toArray, List.set_cons_zero, List.set_cons_succ]
      refine held_take 8 (oi := _) (v := ?_) rfl (by kernel_rfl) (by kernel_rfl) (by kernel_rfl) (fun _ _ _ h => h) (by rfl) (fun w hSw => ?_) (by assumption) ?_
      rotate_left
      · (try dsimp only at hSw); go_simp; try with_reducible rfl
      try simp only [Act.put, List.setIfInBounds_toArray, List.set_cons_zero, List.set_cons_succ]
      refine held_take 9 (oi := _) (v := ?_) rfl (by kernel_rfl) (by kernel_rfl) (by kernel_rfl) (fun _ _ _ h => h) (by rfl) (fun w hSw => ?_) (by assumption) ?_
      rotate_left
      · (try dsimp only at hSw); go_simp; try with_reducible rfl
      try simp only [Act.put, List.setIfInBounds_toArray, List.set_cons_zero, List.set_cons_succ]
      refine held_take 10 (oi := _) (v := ?_) rfl (by kernel_rfl) (by kernel_rfl) (by kernel_rfl) (fun _ _ _ h => h) (by rfl) (fun w hSw => ?_) (by assumption) ?_
      rotate_left
      · (try dsimp only at hSw); go_simp; try with_reducible rfl
      try simp only [Act.put, List.setIfInBounds_toArray, List.set_cons_zero, List.set_cons_succ]
      refine held_take 11 (oi := _) (v := ?_) rfl (by kernel_rfl) (by kernel_rfl) (by kernel_rfl) (fun _ _ _ h => h) (by rfl) (fun w hSw => ?_) (by assumption) ?_
      rotate_left
      · (try dsimp only at hSw); go_simp; try with_reducible rfl
      try simp only [Act.put, List.setIfInBounds_toArray, List.set_cons_zero, List.set_cons_succ]
      refine held_take 12 (oi := _) (v := ?_) rfl (by kernel_rfl) (by kernel_rfl) (by kernel_rfl) (fun _ _ _ h => h) (by rfl) (fun w hSw => ?_) (by assumption) ?_
      rotate_left
      · (try dsimp only at hSw); go_simp; try with_reducible rfl
      try simp only [Act.put, List.setIfInBounds_toArray, List.set_cons_zero, List.set_cons_succ]
      refine held_take 13 (oi := _) (v := ?_) rfl (by kernel_rfl) (by kernel_rfl) (by kernel_rfl) (fun _ _ _ h => h) (by rfl) (fun w hSw => ?_) (by assumption) ?_
      rotate_left
      · (try dsimp only at hSw); go_simp; try with_reducible rfl
      try simp only [Act.put, List.setIfInBounds_toArray, List.set_cons_zero, List.set_cons_succ]
      refine held_take 14 (oi := _) (v := ?_) rfl (by kernel_rfl) (by kernel_rfl) (by kernel_rfl) (fun _ _ _ h => h) (by rfl) (fun w hSw => ?_) (by assumption) ?_
      rotate_left
      · (try dsimp only at hSw); go_simp; try with_reducible rfl
      try simp only [Act.put, List.setIfInBounds_toArray, List.set_cons_zero, List.set_cons_succ]
      refine held_take 15 (oi := _) (v := ?_) rfl (by kernel_rfl) (by kernel_rfl) (by kernel_rfl) (fun _ _ _ h => h) (by rfl) (fun w hSw => ?_) (by assumption) ?_
      rotate_left
      · (try dsimp only at hSw); go_simp; try with_reducible rfl
      try simp only [Act.put, List.setIfInBounds_toArray, List.set_cons_zero, List.set_cons_succ]
      refine held_take 16 (oi := _) (v := ?_) rfl (by kernel_rfl) (by kernel_rfl) (by kernel_rfl) (fun _ _ _ h => h) (by rfl) (fun w hSw => ?_) (by assumption) ?_
      rotate_left
      · (try dsimp only at hSw); go_simp; try with_reducible rfl
      try simp only [Act.put, List.setIfInBounds_toArray, List.set_cons_zero, List.set_cons_succ]
      refine held_take 17 (oi := _) (v := ?_) rfl (by kernel_rfl) (by kernel_rfl) (by kernel_rfl) (fun _ _ _ h => h) (by rfl) (fun w hSw => ?_) (by assumption) ?_
      rotate_left
      · (try dsimp only at hSw); go_simp; try with_reducible rfl
      try simp only [Act.put, List.setIfInBounds_toArray, List.set_cons_zero, List.set_cons_succ]
      refine held_take 18 (oi := _) (v := ?_) rfl (by kernel_rfl) (by kernel_rfl) (by kernel_rfl) (fun _ _ _ h => h) (by rfl) (fun w hSw => ?_) (by assumption) ?_
      rotate_left
      · (try dsimp only at hSw); go_simp; try with_reducible rfl
      try simp only [Act.put, List.setIfInBounds_toArray, List.set_cons_zero, List.set_cons_succ]
      refine held_take 19 (oi := _) (v := ?_) rfl (by kernel_rfl) (by kernel_rfl) (by kernel_rfl) (fun _ _ _ h => h) (by rfl) (fun w hSw => ?_) (by assumption) ?_
      rotate_left
      · (try dsimp only at hSw); go_simp; try with_reducible rfl
      try simp only [Act.put, List.setIfInBounds_toArray, List.set_cons_zero, List.set_cons_succ]
      refine held_pass 20 (oi := _) rfl (by kernel_rfl) (by kernel_rfl) (by kernel_rfl) (fun _ _ _ h => h) (by rfl) (by assumption) ?_
      try simp only [Act.put, List.setIfInBounds_toArray, List.set_cons_zero, List.set_cons_succ]
      refine held_pass 21 (oi := _) rfl (by kernel_rfl) (by kernel_rfl) (by kernel_rfl) (fun _ _ _ h => h) (by rfl) (by assumption) ?_
      try simp only [Act.put, List.setIfInBounds_toArray, List.set_cons_zero, List.set_cons_succ]
      refine held_pass 22 (oi := _) rfl (by kernel_rfl) (by kernel_rfl) (by kernel_rfl) (fun _ _ _ h => h) (by rfl) (by assumption) ?_
      try simp only [Act.put, List.setIfInBounds_toArray, List.set_cons_zero, List.set_cons_succ]
      refine held_pass 23 (oi := _) rfl (by kernel_rfl) (by kernel_rfl) (by kernel_rfl) (fun _ _ _ h => h) (by rfl) (by assumption) ?_
      try simp only [Act.put, List.setIfInBounds_toArray, List.set_cons_zero, List.set_cons_succ]
      refine held_pass 24 (oi := _) rfl (by kernel_rfl) (by kernel_rfl) (by kernel_rfl) (fun _ _ _ h => h) (by rfl) (by assumption) ?_
      try simp only [Act.put, List.setIfInBounds_toArray, List.set_cons_zero, List.set_cons_succ]
      refine held_pass 25 (oi := _) rfl (by kernel_rfl) (by kernel_rfl) (by kernel_rfl) (fun _ _ _ h => h) (by rfl) (by assumption) ?_
      try simp only [Act.put, List.setIfInBounds_toArray, List.set_cons_zero, List.set_cons_succ]
      refine held_pass 26 (oi := _) rfl (by kernel_rfl) (by kernel_rfl) (by kernel_rfl) (fun _ _ _ h => h) (by rfl) (by assumption) ?_
      try simp only [Act.put, List.setIfInBounds_toArray, List.set_cons_zero, List.set_cons_succ]
      refine held_take 27 (oi := _) (v := ?_) rfl (by kernel_rfl) (by kernel_rfl) (by kernel_rfl) (fun _ _ _ h => h) (by rfl) (fun w hSw => ?_) (by assumption) ?_
      rotate_left
      · (try dsimp only at hSw); go_simp; try with_reducible rfl
      try simp only [Act.put, List.setIfInBounds_toArray, List.set_cons_zero, List.set_cons_succ]
      refine held_take 28 (oi := _) (v := ?_) rfl (by kernel_rfl) (by kernel_rfl) (by kernel_rfl) (fun _ _ _ h => h) (by rfl) (fun w hSw => ?_) (by assumption) ?_
      rotate_left
      · (try dsimp only at hSw); go_simp; try with_reducible rfl
      try simp only [Act.put, List.setIfInBounds_toArray, List.set_cons_zero, List.set_cons_succ]
      refine wpAnyH_done (by kernel_rfl) (NoPanic.normal ?_) _
      have bE : Box wA ib (.int .i64 (x : Int)) := hi8.1.kept KA.out (fun e => e)
      have hce := bE.cell
      have hfe := bE.frozen
      have hw1 : IntKind.i64.wrap ((x : Int) + 1) = (x : Int) + 1 := IntWalk.i64_in _ (by omega)
      gi_wp2_with (rw [Oper.semAt_eq _ _ _ (fun c h => by cases h)]; go_simp; try go_bits)
      have k3 : Kept U' W8 (World.setCell wA ⟨ib, 0, none⟩ (.int .i64 ((x : Int) + 1))) := (Kept.mono KA.out (fun _ _ e => e.elim)).trans (Kept.one_set wA ⟨ib, 0, none⟩ (.int .i64 ((x : Int) + 1))) (fun b _ e => by have e : b = ib := e; rw [e]; exact hi8.2)
      obtain ⟨e1, e2, e3, e4⟩ := round_plain (U := U') kl hl hlt' hlW k3
      exact ⟨e1, _, e2, e3, e4, by rw [List.length_append, hj]; exact bE.set _, hi8.2⟩
    · rw [if_neg hjx] at hed
      have hb1 : ((j : Int) == (x : Int)) = false := by rw [beq_eq_false_iff_ne]; omega
      have hb2 : ((j : Int) != (x : Int)) = true := by rw [bne_iff_ne]; omega
      subst hed
      clear hek hen7 k67 hen8
      gi_wp2_with (rw [Oper.semAt_eq _ _ _ (fun c h => by cases h)]; go_simp; try go_bits)
      refine wpW_region_held (S := fun w' => w'.cell? ⟨ib, 0, none⟩ = some (.int .i64 (j : Int)) ∧ w'.cell? ⟨nb, 0, none⟩ = some (.int .i64 (x : Int)) ∧ w'.cell? ⟨nb + 1, 0, none⟩ = some (.string u) ∧ w'.cell? ⟨q, 3, none⟩ = some (.int .i64 (V : Int)) ∧ (convert 34 9 (.slice (some ⟨e.d, 0, none⟩) (zeroB V).size e.c)).run Try.prog w' = .ok (.string (zeroB V)) w') (by kernel_rfl) (by kernel_rfl) (by rintro ⟨_, _, h⟩; first | exact h.elim | (obtain ⟨h1, -⟩ := h; cases h1)) ?_ (fun hHeld => ?_)
      · exact CELLS.out _ ((Kept.refl _ _).twin ⟨rfl, rfl, rfl, rfl⟩)
      refine held_take 0 (oi := _) (v := ?_) rfl (by kernel_rfl) (by kernel_rfl) (by kernel_rfl) (fun _ _ _ h => h) (by rfl) (fun w hSw => ?_) (by assumption) ?_
      rotate_left
      · (try dsimp only at hSw); go_simp; try with_reducible rfl
      try simp only [Act.put, List.setIfInBounds_toArray, List.set_cons_zero, List.set_cons_succ]
      refine held_take 1 (oi := _) (v := ?_) rfl (by kernel_rfl) (by kernel_rfl) (by kernel_rfl) (fun _ _ _ h => h) (by rfl) (fun w hSw => ?_) (by assumption) ?_
      rotate_left
      · (try dsimp only at hSw); go_simp; try with_reducible rfl
      try simp only [Act.put, List.setIfInBounds_toArray, List.set_cons_zero, List.set_cons_succ]
      refine wpAnyH_ready (rs := [2]) (by kernel_rfl) (by simp) ?_
      refine held_cons 2 (o := _) rfl (fun KC hKC => ?_) AllReadyH.nil
      go_simp
      with_reducible refine Calls.mono (NUMB.out _ ?_) ?_
      · exact (Kept.refl _ _).twin ⟨rfl, rfl, rfl, rfl⟩
      rintro e1 wA ⟨rfl, kA⟩
      have KA := Lib.hid kA
      clear kA
      dsimp only
      refine hKC.out _ _ ?_ (fun hHeld => ?_)
      · first | exact CELLS.out _ KA.out | exact CELLS.out _ (KA.out.alloc _)
      clear hKC KC
      try simp only [Act.put, List.setIfInBounds_toArray, List.set_cons_zero, List.set_cons_succ]
      refine held_take 3 (oi := _) (v := ?_) rfl (by kernel_rfl) (by kernel_rfl) (by kernel_rfl) (fun _ _ _ h => h) (by rfl) (fun w hSw => ?_) (by assumption) ?_
      rotate_left
      · (try dsimp only at hSw); go_simp; try with_reducible rfl
      try simp only [Act.put, List.setIfInBounds_toArray, List.set_cons_zero, List.set_cons_succ]
      refine held_take 4 (oi := _) (v := ?_) rfl (by kernel_rfl) (by kernel_rfl) (by kernel_rfl) (fun _ _ _ h => h) (by rfl) (fun w hSw => ?_) (by assumption) ?_
      rotate_left
      · (try dsimp only at hSw); go_simp; try with_reducible rfl
      try simp only [Act.put, List.setIfInBounds_toArray, List.set_cons_zero, List.set_cons_succ]
      refine held_take 5 (oi := _) (v := ?_) rfl (by kernel_rfl) (by kernel_rfl) (by kernel_rfl) (fun _ _ _ h => h) (by rfl) (fun w hSw => ?_) (by assumption) ?_
      rotate_left
      · (try dsimp only at hSw); go_simp; try with_reducible rfl
      try simp only [Act.put, List.setIfInBounds_toArray, List.set_cons_zero, List.set_cons_succ]
      refine held_take 6 (oi := _) (v := ?_) rfl (by kernel_rfl) (by kernel_rfl) (by kernel_rfl) (fun _ _ _ h => h) (by rfl) (fun w hSw => ?_) (by assumption) ?_
      rotate_left
      · (try dsimp only at hSw); go_simp; try with_reducible rfl
      try simp only [Act.put, List.setIfInBounds_toArray, List.set_cons_zero, List.set_cons_succ]
      refine held_take 7 (oi := _) (v := ?_) rfl (by kernel_rfl) (by kernel_rfl) (by kernel_rfl) (fun _ _ _ h => h) (by rfl) (fun w hSw => ?_) (by assumption) ?_
      rotate_left
      · (try dsimp only at hSw); go_simp; try with_reducible rfl
      try simp only [Act.put, List.setIfInBounds_toArray, List.set_cons_zero, List.set_cons_succ]
      refine held_take 8 (oi := _) (v := ?_) rfl (by kernel_rfl) (by kernel_rfl) (by kernel_rfl) (fun _ _ _ h => h) (by rfl) (fun w hSw => ?_) (by assumption) ?_
      rotate_left
      · (try dsimp only at hSw); go_simp; try with_reducible rfl
      try simp only [Act.put, List.setIfInBounds_toArray, List.set_cons_zero, List.set_cons_succ]
      refine held_pass 9 (oi := _) rfl (by kernel_rfl) (by kernel_rfl) (by kernel_rfl) (fun _ _ _ h => h) (by rfl) (by assumption) ?_
      try simp only [Act.put, List.setIfInBounds_toArray, List.set_cons_zero, List.set_cons_succ]
      refine held_pass 10 (oi := _) rfl (by kernel_rfl) (by kernel_rfl) (by kernel_rfl) (fun _ _ _ h => h) (by rfl) (by assumption) ?_
      try simp only [Act.put, List.setIfInBounds_toArray, List.set_cons_zero, List.set_cons_succ]
      refine held_pass 11 (oi := _) rfl (by kernel_rfl) (by kernel_rfl) (by kernel_rfl) (fun _ _ _ h => h) (by rfl) (by assumption) ?_
      try simp only [Act.put, List.setIfInBounds_toArray, List.set_cons_zero, List.set_cons_succ]
      refine held_pass 12 (oi := _) rfl (by kernel_rfl) (by kernel_rfl) (by kernel_rfl) (fun _ _ _ h => h) (by rfl) (by assumption) ?_
      try simp only [Act.put, List.setIfInBounds_toArray, List.set_cons_zero, List.set_cons_succ]
      refine held_take 13 (oi := _) (v := ?_) rfl (by kernel_rfl) (by kernel_rfl) (by kernel_rfl) (fun _ _ _ h => h) (by rfl) (fun w hSw => ?_) (by assumption) ?_
      rotate_left
      · (try dsimp only at hSw); go_simp; try with_reducible rfl
      try simp only [Act.put, List.setIfInBounds_toArray, List.set_cons_zero, List.set_cons_succ]
      refine held_take 14 (oi := _) (v := ?_) rfl (by kernel_rfl) (by kernel_rfl) (by kernel_rfl) (fun _ _ _ h => h) (by rfl) (fun w hSw => ?_) (by assumption) ?_
      rotate_left
      · (try dsimp only at hSw); go_simp; try with_reducible rfl
      try simp only [Act.put, List.setIfInBounds_toArray, List.set_cons_zero, List.set_cons_succ]
      refine held_take 15 (oi := _) (v := ?_) rfl (by kernel_rfl) (by kernel_rfl) (by kernel_rfl) (fun _ _ _ h => h) (by rfl) (fun w hSw => ?_) (by assumption) ?_
      rotate_left
      · (try dsimp only at hSw); go_simp; try with_reducible rfl
      try simp only [Act.put, List.setIfInBounds_toArray, List.set_cons_zero, List.set_cons_succ]
      refine held_take 16 (oi := _) (v := ?_) rfl (by kernel_rfl) (by kernel_rfl) (by kernel_rfl) (fun _ _ _ h => h) (by rfl) (fun w hSw => ?_) (by assumption) ?_
      rotate_left
      · (try dsimp only at hSw); go_simp; try with_reducible rfl
      try simp only [Act.put, List.setIfInBounds_toArray, List.set_cons_zero, List.set_cons_succ]
      refine held_take 17 (oi := _) (v := ?_) rfl (by kernel_rfl) (by kernel_rfl) (by kernel_rfl) (fun _ _ _ h => h) (by rfl) (fun w hSw => ?_) (by assumption) ?_
      rotate_left
      · (try dsimp only at hSw); go_simp; try with_reducible rfl
      try simp only [Act.put, List.setIfInBounds_toArray, List.set_cons_zero, List.set_cons_succ]
      refine held_take 18 (oi := _) (v := ?_) rfl (by kernel_rfl) (by kernel_rfl) (by kernel_rfl) (fun _ _ _ h => h) (by rfl) (fun w hSw => ?_) (by assumption) ?_
      rotate_left
      · (try dsimp only at hSw); go_simp; try with_reducible rfl
      try simp only [Act.put, List.setIfInBounds_toArray, List.set_cons_zero, List.set_cons_succ]
      refine held_take 19 (oi := _) (v := ?_) rfl (by kernel_rfl) (by kernel_rfl) (by kernel_rfl) (fun _ _ _ h => h) (by rfl) (fun w hSw => ?_) (by assumption) ?_
      rotate_left
      · (try dsimp only at hSw); go_simp; try with_reducible rfl
      try simp only [Act.put, List.setIfInBounds_toArray, List.set_cons_zero, List.set_cons_succ]
      refine held_take 20 (oi := _) (v := ?_) rfl (by kernel_rfl) (by kernel_rfl) (by kernel_rfl) (fun _ _ _ h => h) (by rfl) (fun w hSw => ?_) (by assumption) ?_
      rotate_left
      · (try dsimp only at hSw); go_simp; try with_reducible rfl
      try simp only [Act.put, List.setIfInBounds_toArray, List.set_cons_zero, List.set_cons_succ]
      refine held_take 21 (oi := _) (v := ?_) rfl (by kernel_rfl) (by kernel_rfl) (by kernel_rfl) (fun _ _ _ h => h) (by rfl) (fun w hSw => ?_) (by assumption) ?_
      rotate_left
      · (try dsimp only at hSw); go_simp; try with_reducible rfl
      try simp only [Act.put, List.setIfInBounds_toArray, List.set_cons_zero, List.set_cons_succ]
      refine held_take 22 (oi := _) (v := ?_) rfl (by kernel_rfl) (by kernel_rfl) (by kernel_rfl) (fun _ _ _ h => h) (by rfl) (fun w hSw => ?_) (by assumption) ?_
      rotate_left
      · (try dsimp only at hSw); go_simp; try with_reducible rfl
      try simp only [Act.put, List.setIfInBounds_toArray, List.set_cons_zero, List.set_cons_succ]
      refine held_take 23 (oi := _) (v := ?_) rfl (by kernel_rfl) (by kernel_rfl) (by kernel_rfl) (fun _ _ _ h => h) (by rfl) (fun w hSw => ?_) (by assumption) ?_
      rotate_left
      · (try dsimp only at hSw); go_simp; try with_reducible rfl
      try simp only [Act.put, List.setIfInBounds_toArray, List.set_cons_zero, List.set_cons_succ]
      refine wpAnyH_ready (rs := [24]) (by kernel_rfl) (by simp) ?_
      refine held_cons 24 (o := _) rfl (fun KC hKC => ?_) AllReadyH.nil
      have hmk := make_bytes V (by omega) wA
      have hcz : (convert 34 9 (.slice (some ⟨wA.heap.size, 0, none⟩) V V)).run Try.prog (wA.alloc (.cells (madeCells (Value.int .u8 0).cells (V * 1)) 5)) = .ok (.string (zeroB V)) (wA.alloc (.cells (madeCells (Value.int .u8 0).cells (V * 1)) 5)) := (bytes_new wA (zeroB V) 5 rfl (zeroB_size V).symm (made_zero V)).conv
      generalize madeCells (Value.int .u8 0).cells (V * 1) = C at hmk hcz
      go_simp
      refine hKC.out _ _ ?_ (fun hHeld => ?_)
      · first | exact CELLS.out _ KA.out | exact CELLS.out _ (KA.out.alloc _)
      clear hKC KC
      try simp only [Act.put, List.setIfInBounds_toArray, List.set_cons_zero, List.set_cons_succ]
      refine wpAnyH_ready (rs := [25]) (by kernel_rfl) (by simp) ?_
      refine held_cons 25 (o := _) rfl (fun KC hKC => ?_) AllReadyH.nil
      go_simp
      refine hKC.out _ _ ?_ (fun hHeld => ?_)
      · first | exact CELLS.out _ KA.out | exact CELLS.out _ (KA.out.alloc _)
      clear hKC KC
      try simp only [Act.put, List.setIfInBounds_toArray, List.set_cons_zero, List.set_cons_succ]
      refine held_take 26 (oi := _) (v := ?_) rfl (by kernel_rfl) (by kernel_rfl) (by kernel_rfl) (fun _ _ _ h => h) (by rfl) (fun w hSw => ?_) (by assumption) ?_
      rotate_left
      · (try dsimp only at hSw); go_simp; try with_reducible rfl
      try simp only [Act.put, List.setIfInBounds_toArray, List.set_cons_zero, List.set_cons_succ]
      refine held_take 27 (oi := _) (v := ?_) rfl (by kernel_rfl) (by kernel_rfl) (by kernel_rfl) (fun _ _ _ h => h) (by rfl) (fun w hSw => ?_) (by assumption) ?_
      rotate_left
      · (try dsimp only at hSw); go_simp; try with_reducible rfl
      try simp only [Act.put, List.setIfInBounds_toArray, List.set_cons_zero, List.set_cons_succ]
      refine held_take 28 (oi := _) (v := ?_) rfl (by kernel_rfl) (by kernel_rfl) (by kernel_rfl) (fun _ _ _ h => h) (by rfl) (fun w hSw => ?_) (by assumption) ?_
      rotate_left
      · (try dsimp only at hSw); go_simp; try with_reducible rfl
      try simp only [Act.put, List.setIfInBounds_toArray, List.set_cons_zero, List.set_cons_succ]
      refine wpAnyH_done (by kernel_rfl) (NoPanic.normal ?_) _
      have bE : Box (wA.alloc (.cells C 5)) ib (.int .i64 (j : Int)) := hi8.1.kept (KA.out.alloc _) (fun e => e)
      have hce := bE.cell
      have hfe := bE.frozen
      have hw1 : IntKind.i64.wrap ((j : Int) + 1) = (j : Int) + 1 := IntWalk.i64_in _ (by omega)
      gi_wp2_with (rw [Oper.semAt_eq _ _ _ (fun c h => by cases h)]; go_simp; try go_bits)
      have k3 : Kept U' W8 (World.setCell (wA.alloc (.cells C 5)) ⟨ib, 0, none⟩ (.int .i64 ((j : Int) + 1))) := (Kept.mono (KA.out.alloc _) (fun _ _ e => e.elim)).trans (Kept.one_set (wA.alloc (.cells C 5)) ⟨ib, 0, none⟩ (.int .i64 ((j : Int) + 1))) (fun b _ e => by have e : b = ib := e; rw [e]; exact hi8.2)
      obtain ⟨e1, e2, e3, e4⟩ := round_plain (U := U') kl hl hlt' hlW k3
      exact ⟨e1, _, e2, e3, e4, by rw [List.length_append, hj]; exact bE.set _, hi8.2⟩
  · intro items dk U3 W7 hfull hi hkw hRd' hdk hdkn hdkU hUU hUn hUlt
    rw [hord] at hfull
    subst hfull
    have hlen : items.length = N := by rw [← kvs_len, hE]; simp [arrP]
    have k67 : Kept (fun b => b = ib) w16 W7 := ((k17.trans k6 (fun _ _ e => e)).mono fun _ _ e => e.elim).trans hkw (fun _ _ e => e)
    obtain ⟨hT, kB16, hF, -, m16, n16, v16, r16, b16, kW16, kx16⟩ := S16.out
    have hq0 := SZ.out.2.1
    have hrb := SZ.out.2.2.1
    have hW01 := SZ.out.2.2.2.1
    have hqW := SZ.out.2.2.2.2
    have hkw16 := kB16.size
    have hx0 := SZ.out.1
    have hbx := BASE.out.2.2.2.2.2.2.2
    have hT7 : Tb W7 bt (arrM V N) iv items F := hT.kept k67 (fun b hb e => by have := (hF b hb).2; have e : b = ib := e; omega)
    have r7 := r16.kept k67 (fun e => by omega)
    have v7 := v16.kept k67 (fun e => by omega)
    have n7 := n16.kept k67 (fun e => by omega)
    have m7 := m16.kept k67 (fun e => by omega)
    have b7 := b16.kept k67 (fun b o e h => by cases e; have h : kx = ib := h; omega)
    have kW7 : Kept (fun _ => False) W W7 := kW16.trans k67 (fun b hb e => by have e : b = ib := e; have := kW16.size; omega)
    have i7 := hi.1
    rw [hlen] at i7
    have hFl : ∀ b, F b → W0.heap.size ≤ b ∧ b < ib := fun b hb => by have := hF b (.inr (.inl hb)); omega
    have hFe : ∀ e ∈ items, ¬ F e.b ∧ ¬ F e.d := fun e he => ⟨fun h => ((hT.apart _ h).2 e he).1 rfl, fun h => ((hT.apart _ h).2 e he).2 rfl⟩
    have RBX := Lib.hid (show Box W7 (nb + 1 + 1) (.bool false) ∧ ¬ F (nb + 1 + 1) from ⟨r7, fun h => by have := hFl _ h; omega⟩)
    have FIN := Lib.hid (show W7.heap[dk]? = some (.deferred (some [])) ∧ ¬ F dk ∧ dk ≠ nb + 1 + 1 ∧ Kept (fun _ => False) W W7 ∧ (∀ b, b < W.heap.size → F b → False) ∧ W.heap.size = nb ∧ nb ≤ dk from
      ⟨hdk, fun h => by have := hFl _ h; have := k6.size; have := k17.size; omega, by have := k6.size; have := k17.size; omega, kW7, fun b hb h => by have := hFl _ h; have := K0.out.size; omega, hnb, by have := k6.size; have := k17.size; omega⟩)
    have DEL := Lib.hid (show ∀ W', Kept (fun _ => False) W7 W' → Calls Try.prog 23 #[.pointer (some ⟨bt, 0, none⟩), .slice (some ⟨kx, 0, none⟩) (numK x).size cc] W' fun e w' => e = .returned (.int .i64 6) ∧ Kept F W7 w' ∧ ∀ W'', Kept (fun _ => False) w' W'' → Calls Try.prog 17 #[.pointer (some ⟨bt, 0, none⟩)] W'' fun e w'' => e = .returned (.int .i64 (N : Int)) ∧ Kept (fun _ => False) w' w'' from by
      intro W' k
      refine (delete_any (hT7.kept k (fun _ _ e => e)) (b7.kept k (fun _ _ _ e => e))).mono ?_
      rintro e w' ⟨rfl, ⟨F2, hT2, -⟩, k2⟩
      refine ⟨rfl, (k.mono fun _ _ e => e.elim).trans k2 (fun _ _ e => e), fun W'' k3 => ?_⟩
      refine (len_any (hT2.kept k3 (fun _ _ e => e))).mono ?_
      rintro e w'' ⟨rfl, k4⟩
      exact ⟨by rw [show delE (arrM V N) (numK x) items = items from rfl, hlen], k3.trans k4 (fun _ _ e => e)⟩)
    have hcn := n7.cell
    have hc4 : W7.cell? ⟨q, 4, none⟩ = some (.int .i64 (N : Int)) := m7.c4
    have hci := i7.cell
    obtain ⟨p1, p2, p3, p4, p5, p6, pin, pout⟩ := PL.out
    have hlk := ary_look V N x (zeroB V) (by omega) (by omega)
    by_cases hxN : x < N
    · obtain ⟨rfl, rfl, rfl⟩ := pin hxN
      rw [if_pos hxN] at hlk
      have hb : isb = true := by rw [← ISB.out, hlk]; rfl
      subst hb
      have hlo := ary_look V N x u (by omega) (by omega)
      rw [if_pos hxN, ← hE, kvs_look, HO.out] at hlo
      obtain ⟨e, rfl, hed⟩ := Option.map_eq_some_iff.1 hlo
      have hee : e ∈ items := (lookT_some HO.out).1
      have hen := hT7.en e hee
      have CELLS2 := Lib.hid (show ∀ w', Kept (fun b => F b ∨ b = nb + 1 + 1) W7 w' → w'.cell? ⟨ib, 0, none⟩ = some (.int .i64 (N : Int)) ∧ w'.cell? ⟨nb + 1, 0, none⟩ = some (.string u) ∧ w'.cell? ⟨q, 4, none⟩ = some (.int .i64 (N : Int)) ∧ w'.cell? ⟨e.b, 1, none⟩ = some (.slice (some ⟨e.d, 0, none⟩) u.size e.c) ∧ (convert 34 9 (.slice (some ⟨e.d, 0, none⟩) u.size e.c)).run Try.prog w' = .ok (.string u) w' from fun w' k => by
        have h1 := hFe e hee
        have h2 := (hF e.b (.inr (.inr ⟨e, hee, .inl rfl⟩))).1.1
        have h3 := (hF e.d (.inr (.inr ⟨e, hee, .inr rfl⟩))).1.1
        have hen' := hen.kept k (fun h => h.elim h1.1 (fun h => by omega)) (fun h => h.elim h1.2 (fun h => by omega))
        have hsl := hen'.sl
        have hcv := hen'.data.conv (c := e.c)
        rw [hed] at hsl hcv
        exact ⟨(i7.kept k (fun h => h.elim (fun h => by have := hFl _ h; omega) (fun h => by omega))).cell, (v7.kept k (fun h => h.elim (fun h => by have := hFl _ h; omega) (fun h => by omega))).cell, (m7.kept k (fun h => h.elim (fun h => by have := hFl _ h; omega) (fun h => by omega))).c4, hsl, hcv⟩)
      have hge : ¬ ((N : Int) ≤ (x : Int)) := by omega
      clear hlk hlo hed hen hee pin pout p1 p2 p3 p4 p5 p6 hT hT7 r7 v7 n7 m7 b7 i7 kW7 hFl hFe m16 n16 v16 r16 b16 kW16 hF hi hkw hRd' hRd hT6 hxd hDF k67 hUU hUn hUlt hdk hdkn hdkU k17 k6 hE hlen kB16
      simp only [enV, Option.isSome_some]
      gi_wp2_with fail
      refine wpW_region_held (S := fun w' => w'.cell? ⟨ib, 0, none⟩ = some (.int .i64 (N : Int)) ∧ w'.cell? ⟨nb + 1, 0, none⟩ = some (.string u) ∧ w'.cell? ⟨q, 4, none⟩ = some (.int .i64 (N : Int)) ∧ w'.cell? ⟨e.b, 1, none⟩ = some (.slice (some ⟨e.d, 0, none⟩) u.size e.c) ∧ (convert 34 9 (.slice (some ⟨e.d, 0, none⟩) u.size e.c)).run Try.prog w' = .ok (.string u) w') (by kernel_rfl) (by kernel_rfl) (by rintro ⟨_, _, h⟩; first | exact h.elim | (obtain ⟨h1, -⟩ := h; cases h1)) ?_ (fun hHeld => ?_)
      · exact CELLS2.out _ ((Kept.refl _ _).twin ⟨rfl, rfl, rfl, rfl⟩)
      refine held_take 0 (oi := _) (v := ?_) rfl (by kernel_rfl) (by kernel_rfl) (by kernel_rfl) (fun _ _ _ h => h) (by rfl) (fun w hSw => ?_) (by assumption) ?_
      rotate_left
      · (try dsimp only at hSw); go_simp; try with_reducible rfl
      try simp only [Act.put, List.setIfInBounds_toArray, List.set_cons_zero, List.set_cons_succ]
      refine held_take 1 (oi := _) (v := ?_) rfl (by kernel_rfl) (by kernel_rfl) (by kernel_rfl) (fun _ _ _ h => h) (by rfl) (fun w hSw => ?_) (by assumption) ?_
      rotate_left
      · (try dsimp only at hSw); go_simp; try with_reducible rfl
      try simp only [Act.put, List.setIfInBounds_toArray, List.set_cons_zero, List.set_cons_succ]
      refine held_take 2 (oi := _) (v := ?_) rfl (by kernel_rfl) (by kernel_rfl) (by kernel_rfl) (fun _ _ _ h => h) (by rfl) (fun w hSw => ?_) (by assumption) ?_
      rotate_left
      · (try dsimp only at hSw); go_simp; try with_reducible rfl
      try simp only [Act.put, List.setIfInBounds_toArray, List.set_cons_zero, List.set_cons_succ]
      refine held_take 3 (oi := _) (v := ?_) rfl (by kernel_rfl) (by kernel_rfl) (by kernel_rfl) (fun _ _ _ h => h) (by rfl) (fun w hSw => ?_) (by assumption) ?_
      rotate_left
      · (try dsimp only at hSw); go_simp; try with_reducible rfl
      try simp only [Act.put, List.setIfInBounds_toArray, List.set_cons_zero, List.set_cons_succ]
      refine held_take 4 (oi := _) (v := ?_) rfl (by kernel_rfl) (by kernel_rfl) (by kernel_rfl) (fun _ _ _ h => h) (by rfl) (fun w hSw => ?_) (by assumption) ?_
      rotate_left
      · (try dsimp only at hSw); go_simp; try with_reducible rfl
      try simp only [Act.put, List.setIfInBounds_toArray, List.set_cons_zero, List.set_cons_succ]
      refine held_take 5 (oi := _) (v := ?_) rfl (by kernel_rfl) (by kernel_rfl) (by kernel_rfl) (fun _ _ _ h => h) (by rfl) (fun w hSw => ?_) (by assumption) ?_
      rotate_left
      · (try dsimp only at hSw); go_simp; try with_reducible rfl
      try simp only [Act.put, List.setIfInBounds_toArray, List.set_cons_zero, List.set_cons_succ]
      refine held_take 6 (oi := _) (v := ?_) rfl (by kernel_rfl) (by kernel_rfl) (by kernel_rfl) (fun _ _ _ h => h) (by rfl) (fun w hSw => ?_) (by assumption) ?_
      rotate_left
      · (try dsimp only at hSw); go_simp; try with_reducible rfl
      try simp only [Act.put, List.setIfInBounds_toArray, List.set_cons_zero, List.set_cons_succ]
      refine held_take 7 (oi := _) (v := ?_) rfl (by kernel_rfl) (by kernel_rfl) (by kernel_rfl) (fun _ _ _ h => h) (by rfl) (fun w hSw => ?_) (by assumption) ?_
      rotate_left
      · (try dsimp only at hSw); go_simp; try with_reducible rfl
      try simp only [Act.put, List.setIfInBounds_toArray, List.set_cons_zero, List.set_cons_succ]
      refine held_take 8 (oi := _) (v := ?_) rfl (by kernel_rfl) (by kernel_rfl) (by kernel_rfl) (fun _ _ _ h => h) (by rfl) (fun w hSw => ?_) (by assumption) ?_
      rotate_left
      · (try dsimp only at hSw); go_simp; try with_reducible rfl
      try simp only [Act.put, List.setIfInBounds_toArray, List.set_cons_zero, List.set_cons_succ]
      refine held_take 9 (oi := _) (v := ?_) rfl (by kernel_rfl) (by kernel_rfl) (by kernel_rfl) (fun _ _ _ h => h) (by rfl) (fun w hSw => ?_) (by assumption) ?_
      rotate_left
      · (try dsimp only at hSw); go_simp; try with_reducible rfl
      try simp only [Act.put, List.setIfInBounds_toArray, List.set_cons_zero, List.set_cons_succ]
      refine held_take 10 (oi := _) (v := ?_) rfl (by kernel_rfl) (by kernel_rfl) (by kernel_rfl) (fun _ _ _ h => h) (by rfl) (fun w hSw => ?_) (by assumption) ?_
      rotate_left
      · (try dsimp only at hSw); go_simp; try with_reducible rfl
      try simp only [Act.put, List.setIfInBounds_toArray, List.set_cons_zero, List.set_cons_succ]
      refine held_take 11 (oi := _) (v := ?_) rfl (by kernel_rfl) (by kernel_rfl) (by kernel_rfl) (fun _ _ _ h => h) (by rfl) (fun w hSw => ?_) (by assumption) ?_
      rotate_left
      · (try dsimp only at hSw); go_simp; try with_reducible rfl
      try simp only [Act.put, List.setIfInBounds_toArray, List.set_cons_zero, List.set_cons_succ]
      refine held_take 12 (oi := _) (v := ?_) rfl (by kernel_rfl) (by kernel_rfl) (by kernel_rfl) (fun _ _ _ h => h) (by rfl) (fun w hSw => ?_) (by assumption) ?_
      rotate_left
      · (try dsimp only at hSw); go_simp; try with_reducible rfl
      try simp only [Act.put, List.setIfInBounds_toArray, List.set_cons_zero, List.set_cons_succ]
      refine held_take 13 (oi := _) (v := ?_) rfl (by kernel_rfl) (by kernel_rfl) (by kernel_rfl) (fun _ _ _ h => h) (by rfl) (fun w hSw => ?_) (by assumption) ?_
      rotate_left
      · (try dsimp only at hSw); go_simp; try with_reducible rfl
      try simp only [Act.put, List.setIfInBounds_toArray, List.set_cons_zero, List.set_cons_succ]
      refine held_take 14 (oi := _) (v := ?_) rfl (by kernel_rfl) (by kernel_rfl) (by kernel_rfl) (fun _ _ _ h => h) (by rfl) (fun w hSw => ?_) (by assumption) ?_
      rotate_left
      · (try dsimp only at hSw); go_simp; try with_reducible rfl
      try simp only [Act.put, List.setIfInBounds_toArray, List.set_cons_zero, List.set_cons_succ]
      refine held_take 15 (oi := _) (v := ?_) rfl (by kernel_rfl) (by kernel_rfl) (by kernel_rfl) (fun _ _ _ h => h) (by rfl) (fun w hSw => ?_) (by assumption) ?_
      rotate_left
      · (try dsimp only at hSw); go_simp; try with_reducible rfl
      try simp only [Act.put, List.setIfInBounds_toArray, List.set_cons_zero, List.set_cons_succ]
      refine held_take 16 (oi := _) (v := ?_) rfl (by kernel_rfl) (by kernel_rfl) (by kernel_rfl) (fun _ _ _ h => h) (by rfl) (fun w hSw => ?_) (by assumption) ?_
      rotate_left
      · (try dsimp only at hSw); go_simp; try with_reducible rfl
      try simp only [Act.put, List.setIfInBounds_toArray, List.set_cons_zero, List.set_cons_succ]
      refine held_take 17 (oi := _) (v := ?_) rfl (by kernel_rfl) (by kernel_rfl) (by kernel_rfl) (fun _ _ _ h => h) (by rfl) (fun w hSw => ?_) (by assumption) ?_
      rotate_left
      · (try dsimp only at hSw); go_simp; try with_reducible rfl
      try simp only [Act.put, List.setIfInBounds_toArray, List.set_cons_zero, List.set_cons_succ]
      refine held_take 18 (oi := _) (v := ?_) rfl (by kernel_rfl) (by kernel_rfl) (by kernel_rfl) (fun _ _ _ h => h) (by rfl) (fun w hSw => ?_) (by assumption) ?_
      rotate_left
      · (try dsimp only at hSw); go_simp; try with_reducible rfl
      try simp only [Act.put, List.setIfInBounds_toArray, List.set_cons_zero, List.set_cons_succ]
      refine held_take 19 (oi := _) (v := ?_) rfl (by kernel_rfl) (by kernel_rfl) (by kernel_rfl) (fun _ _ _ h => h) (by rfl) (fun w hSw => ?_) (by assumption) ?_
      rotate_left
      · (try dsimp only at hSw); go_simp; try with_reducible rfl
      try simp only [Act.put, List.setIfInBounds_toArray, List.set_cons_zero, List.set_cons_succ]
      refine held_take 20 (oi := _) (v := ?_) rfl (by kernel_rfl) (by kernel_rfl) (by kernel_rfl) (fun _ _ _ h => h) (by rfl) (fun w hSw => ?_) (by assumption) ?_
      rotate_left
      · (try dsimp only at hSw); go_simp; try with_reducible rfl
      try simp only [Act.put, List.setIfInBounds_toArray, List.set_cons_zero, List.set_cons_succ]
      refine held_take 21 (oi := _) (v := ?_) rfl (by kernel_rfl) (by kernel_rfl) (by kernel_rfl) (fun _ _ _ h => h) (by rfl) (fun w hSw => ?_) (by assumption) ?_
      rotate_left
      · (try dsimp only at hSw); go_simp; try with_reducible rfl
      try simp only [Act.put, List.setIfInBounds_toArray, List.set_cons_zero, List.set_cons_succ]
      refine held_take 22 (oi := _) (v := ?_) rfl (by kernel_rfl) (by kernel_rfl) (by kernel_rfl) (fun _ _ _ h => h) (by rfl) (fun w hSw => ?_) (by assumption) ?_
      rotate_left
      · (try dsimp only at hSw); go_simp; try with_reducible rfl
      try simp only [Act.put, List.setIfInBounds_toArray, List.set_cons_zero, List.set_cons_succ]
      refine held_take 23 (oi := _) (v := ?_) rfl (by kernel_rfl) (by kernel_rfl) (by kernel_rfl) (fun _ _ _ h => h) (by rfl) (fun w hSw => ?_) (by assumption) ?_
      rotate_left
      · (try dsimp only at hSw); go_simp; try with_reducible rfl
      try simp only [Act.put, List.setIfInBounds_toArray, List.set_cons_zero, List.set_cons_succ]
      refine held_take 24 (oi := _) (v := ?_) rfl (by kernel_rfl) (by kernel_rfl) (by kernel_rfl) (fun _ _ _ h => h) (by rfl) (fun w hSw => ?_) (by assumption) ?_
      rotate_left
      · (try dsimp only at hSw); go_simp; try with_reducible rfl
      try simp only [Act.put, List.setIfInBounds_toArray, List.set_cons_zero, List.set_cons_succ]
      refine held_take 25 (oi := _) (v := ?_) rfl (by kernel_rfl) (by kernel_rfl) (by kernel_rfl) (fun _ _ _ h => h) (by rfl) (fun w hSw => ?_) (by assumption) ?_
      rotate_left
      · (try dsimp only at hSw); go_simp; try with_reducible rfl
      try simp only [Act.put, List.setIfInBounds_toArray, List.set_cons_zero, List.set_cons_succ]
      refine held_take 26 (oi := _) (v := ?_) rfl (by kernel_rfl) (by kernel_rfl) (by kernel_rfl) (fun _ _ _ h => h) (by rfl) (fun w hSw => ?_) (by assumption) ?_
      rotate_left
      · (try dsimp only at hSw); go_simp; try with_reducible rfl
      try simp only [Act.put, List.setIfInBounds_toArray, List.set_cons_zero, List.set_cons_succ]
      refine held_take 27 (oi := _) (v := ?_) rfl (by kernel_rfl) (by kernel_rfl) (by kernel_rfl) (fun _ _ _ h => h) (by rfl) (fun w hSw => ?_) (by assumption) ?_
      rotate_left
      · (try dsimp only at hSw); go_simp; try with_reducible rfl
      try simp only [Act.put, List.setIfInBounds_toArray, List.set_cons_zero, List.set_cons_succ]
      refine held_take 28 (oi := _) (v := ?_) rfl (by kernel_rfl) (by kernel_rfl) (by kernel_rfl) (fun _ _ _ h => h) (by rfl) (fun w hSw => ?_) (by assumption) ?_
      rotate_left
      · (try dsimp only at hSw); go_simp; try with_reducible rfl
      try simp only [Act.put, List.setIfInBounds_toArray, List.set_cons_zero, List.set_cons_succ]
      refine held_take 29 (oi := _) (v := ?_) rfl (by kernel_rfl) (by kernel_rfl) (by kernel_rfl) (fun _ _ _ h => h) (by rfl) (fun w hSw => ?_) (by assumption) ?_
      rotate_left
      · (try dsimp only at hSw); go_simp; try with_reducible rfl
      try simp only [Act.put, List.setIfInBounds_toArray, List.set_cons_zero, List.set_cons_succ]
      refine held_take 30 (oi := _) (v := ?_) rfl (by kernel_rfl) (by kernel_rfl) (by kernel_rfl) (fun _ _ _ h => h) (by rfl) (fun w hSw => ?_) (by assumption) ?_
      rotate_left
      · (try dsimp only at hSw); go_simp; try with_reducible rfl
      try simp only [Act.put, List.setIfInBounds_toArray, List.set_cons_zero, List.set_cons_succ]
      refine held_take 31 (oi := _) (v := ?_) rfl (by kernel_rfl) (by kernel_rfl) (by kernel_rfl) (fun _ _ _ h => h) (by rfl) (fun w hSw => ?_) (by assumption) ?_
      rotate_left
      · (try dsimp only at hSw); go_simp; try with_reducible rfl
      try simp only [Act.put, List.setIfInBounds_toArray, List.set_cons_zero, List.set_cons_succ]
      refine held_take 32 (oi := _) (v := ?_) rfl (by kernel_rfl) (by kernel_rfl) (by kernel_rfl) (fun _ _ _ h => h) (by rfl) (fun w hSw => ?_) (by assumption) ?_
      rotate_left
      · (try dsimp only at hSw); go_simp; try with_reducible rfl
      try simp only [Act.put, List.setIfInBounds_toArray, List.set_cons_zero, List.set_cons_succ]
      refine held_take 33 (oi := _) (v := ?_) rfl (by kernel_rfl) (by kernel_rfl) (by kernel_rfl) (fun _ _ _ h => h) (by rfl) (fun w hSw => ?_) (by assumption) ?_
      rotate_left
      · (try dsimp only at hSw); go_simp; try with_reducible rfl
      try simp only [Act.put, List.setIfInBounds_toArray, List.set_cons_zero, List.set_cons_succ]
      refine held_take 34 (oi := _) (v := ?_) rfl (by kernel_rfl) (by kernel_rfl) (by kernel_rfl) (fun _ _ _ h => h) (by rfl) (fun w hSw => ?_) (by assumption) ?_
      rotate_left
      · (try dsimp only at hSw); go_simp; try with_reducible rfl
      try simp only [Act.put, List.setIfInBounds_toArray, List.set_cons_zero, List.set_cons_succ]
      refine held_take 35 (oi := _) (v := ?_) rfl (by kernel_rfl) (by kernel_rfl) (by kernel_rfl) (fun _ _ _ h => h) (by rfl) (fun w hSw => ?_) (by assumption) ?_
      rotate_left
      · (try dsimp only at hSw); go_simp; try with_reducible rfl
      try simp only [Act.put, List.setIfInBounds_toArray, List.set_cons_zero, List.set_cons_succ]
      refine held_take 36 (oi := _) (v := ?_) rfl (by kernel_rfl) (by kernel_rfl) (by kernel_rfl) (fun _ _ _ h => h) (by rfl) (fun w hSw => ?_) (by assumption) ?_
      rotate_left
      · (try dsimp only at hSw); go_simp; try with_reducible rfl
      try simp only [Act.put, List.setIfInBounds_toArray, List.set_cons_zero, List.set_cons_succ]
      refine held_take 37 (oi := _) (v := ?_) rfl (by kernel_rfl) (by kernel_rfl) (by kernel_rfl) (fun _ _ _ h => h) (by rfl) (fun w hSw => ?_) (by assumption) ?_
      rotate_left
      · (try dsimp only at hSw); go_simp; try with_reducible rfl
      try simp only [Act.put, List.setIfInBounds_toArray, List.set_cons_zero, List.set_cons_succ]
      refine wpAnyH_ready (rs := [38]) (by kernel_rfl) (by simp) ?_
      refine held_cons 38 (o := _) rfl (fun KC hKC => ?_) AllReadyH.nil
      go_simp
      with_reducible refine Calls.mono (DEL.out _ ?_) ?_
      · exact (Kept.refl _ _).twin ⟨rfl, rfl, rfl, rfl⟩
      rintro e1 wA ⟨rfl, kA, len⟩
      have KA := Lib.hid kA
      have LEN := Lib.hid len
      clear kA len
      dsimp only
      refine hKC.out _ _ ?_ (fun hHeld => ?_)
      · first | exact CELLS2.out _ (KB.out.mono fun _ _ e => .inl e) | exact CELLS2.out _ (KA.out.mono fun _ _ e => .inl e) | exact CELLS2.out _ ((KB.out.mono fun _ _ e => .inl e).trans (Kept.one_set wB ⟨nb + 1 + 1, 0, none⟩ (.bool true)) (fun _ _ e => .inr e))
      clear hKC KC
      try simp only [Act.put, List.setIfInBounds_toArray, List.set_cons_zero, List.set_cons_succ]
      refine held_take 39 (oi := _) (v := ?_) rfl (by kernel_rfl) (by kernel_rfl) (by kernel_rfl) (fun _ _ _ h => h) (by rfl) (fun w hSw => ?_) (by assumption) ?_
      rotate_left
      · (try dsimp only at hSw); go_simp; try with_reducible rfl
      try simp only [Act.put, List.setIfInBounds_toArray, List.set_cons_zero, List.set_cons_succ]
      refine held_take 40 (oi := _) (v := ?_) rfl (by kernel_rfl) (by kernel_rfl) (by kernel_rfl) (fun _ _ _ h => h) (by rfl) (fun w hSw => ?_) (by assumption) ?_
      rotate_left
      · (try dsimp only at hSw); go_simp; try with_reducible rfl
      try simp only [Act.put, List.setIfInBounds_toArray, List.set_cons_zero, List.set_cons_succ]
      refine held_take 41 (oi := _) (v := ?_) rfl (by kernel_rfl) (by kernel_rfl) (by kernel_rfl) (fun _ _ _ h => h) (by rfl) (fun w hSw => ?_) (by assumption) ?_
      rotate_left
      · (try dsimp only at hSw); go_simp; try with_reducible rfl
      try simp only [Act.put, List.setIfInBounds_toArray, List.set_cons_zero, List.set_cons_succ]
      refine held_take 42 (oi := _) (v := ?_) rfl (by kernel_rfl) (by kernel_rfl) (by kernel_rfl) (fun _ _ _ h => h) (by rfl) (fun w hSw => ?_) (by assumption) ?_
      rotate_left
      · (try dsimp only at hSw); go_simp; try with_reducible rfl
      try simp only [Act.put, List.setIfInBounds_toArray, List.set_cons_zero, List.set_cons_succ]
      refine held_take 44 (oi := _) (v := ?_) rfl (by kernel_rfl) (by kernel_rfl) (by kernel_rfl) (fun _ _ _ h => h) (by rfl) (fun w hSw => ?_) (by assumption) ?_
      rotate_left
      · (try dsimp only at hSw); go_simp; try with_reducible rfl
      try simp only [Act.put, List.setIfInBounds_toArray, List.set_cons_zero, List.set_cons_succ]
      refine held_take 45 (oi := _) (v := ?_) rfl (by kernel_rfl) (by kernel_rfl) (by kernel_rfl) (fun _ _ _ h => h) (by rfl) (fun w hSw => ?_) (by assumption) ?_
      rotate_left
      · (try dsimp only at hSw); go_simp; try with_reducible rfl
      try simp only [Act.put, List.setIfInBounds_toArray, List.set_cons_zero, List.set_cons_succ]
      refine wpAnyH_ready (rs := [43]) (by kernel_rfl) (by simp) ?_
      refine held_cons 43 (o := _) rfl (fun KC hKC => ?_) AllReadyH.nil
      go_simp
      with_reducible refine Calls.mono (LEN.out _ ?_) ?_
      · exact (Kept.refl _ _).twin ⟨rfl, rfl, rfl, rfl⟩
      rintro e1 wB ⟨rfl, kB⟩
      have KB := Lib.hid (KA.out.trans kB (fun _ _ e => e.elim))
      have bR := (RBX.out.1.kept KB.out RBX.out.2)
      have hcr := bR.cell
      have hfr := bR.frozen
      clear kB bR
      dsimp only
      refine hKC.out _ _ ?_ (fun hHeld => ?_)
      · first | exact CELLS2.out _ (KB.out.mono fun _ _ e => .inl e) | exact CELLS2.out _ (KA.out.mono fun _ _ e => .inl e) | exact CELLS2.out _ ((KB.out.mono fun _ _ e => .inl e).trans (Kept.one_set wB ⟨nb + 1 + 1, 0, none⟩ (.bool true)) (fun _ _ e => .inr e))
      clear hKC KC
      try simp only [Act.put, List.setIfInBounds_toArray, List.set_cons_zero, List.set_cons_succ]
      refine held_take 46 (oi := _) (v := ?_) rfl (by kernel_rfl) (by kernel_rfl) (by kernel_rfl) (fun _ _ _ h => h) (by rfl) (fun w hSw => ?_) (by assumption) ?_
      rotate_left
      · (try dsimp only at hSw); go_simp; try with_reducible rfl
      try simp only [Act.put, List.setIfInBounds_toArray, List.set_cons_zero, List.set_cons_succ]
      refine held_take 47 (oi := _) (v := ?_) rfl (by kernel_rfl) (by kernel_rfl) (by kernel_rfl) (fun _ _ _ h => h) (by rfl) (fun w hSw => ?_) (by assumption) ?_
      rotate_left
      · (try dsimp only at hSw); go_simp; try with_reducible rfl
      try simp only [Act.put, List.setIfInBounds_toArray, List.set_cons_zero, List.set_cons_succ]
      refine wpAnyH_ready (rs := [48]) (by kernel_rfl) (by simp) ?_
      refine held_cons 48 (o := _) rfl (fun KC hKC => ?_) AllReadyH.nil
      go_simp
      refine hKC.out _ _ ?_ (fun hHeld => ?_)
      · first | exact CELLS2.out _ (KB.out.mono fun _ _ e => .inl e) | exact CELLS2.out _ (KA.out.mono fun _ _ e => .inl e) | exact CELLS2.out _ ((KB.out.mono fun _ _ e => .inl e).trans (Kept.one_set wB ⟨nb + 1 + 1, 0, none⟩ (.bool true)) (fun _ _ e => .inr e))
      clear hKC KC
      try simp only [Act.put, List.setIfInBounds_toArray, List.set_cons_zero, List.set_cons_succ]
      refine wpAnyH_done (by kernel_rfl) (NoPanic.normal ?_) _
      gi_wp2_with fail
      have ks := Kept.one_set wB ⟨nb + 1 + 1, 0, none⟩ (.bool true)
      have kF : Kept (fun b => F b ∨ b = nb + 1 + 1) W7 (wB.setCell ⟨nb + 1 + 1, 0, none⟩ (.bool true)) := ((KB.out).mono fun _ _ e => .inl e).trans ks (fun _ _ e => .inr e)
      obtain ⟨f1, f2, f3, f4, f5, f6⟩ := FIN.out
      have hdk2 := (kF.block dk (Array.getElem?_eq_some_iff.1 f1).1 (fun e => e.elim f2 f3)).trans f1
      refine leaves_marks [dk] _ (by simp) (fun d hd => by rw [List.mem_singleton.1 hd]; exact hdk2) (fun W' kd' => ?_)
      have hb := ((RBX.out.1.kept (KB.out) RBX.out.2).set (.bool true)).kept kd' (fun e => f3 (List.mem_singleton.1 e).symm)
      refine ⟨_, results_box rfl Try.underlying4 rfl rfl hb, rfl, ?_⟩
      exact (f4.trans kF (fun b hb e => e.elim (f5 b hb) (fun e => by omega))).trans kd' (fun b hb e => by have := List.mem_singleton.1 e; omega)
    · obtain ⟨rfl, rfl, rfl⟩ := pout (by omega)
      rw [if_neg hxN] at hlk
      have hb : isb = false := by rw [← ISB.out, hlk]; rfl
      subst hb
      have hlo := ary_look V N x u (by omega) (by omega)
      rw [if_neg hxN, ← hE, kvs_look, HO.out] at hlo
      obtain rfl := Option.map_eq_none_iff.1 hlo
      have hge : ((N : Int) ≤ (x : Int)) := by omega
      clear hlk hlo pin pout p1 p2 p3 p4 p5 p6 hT hT7 r7 v7 n7 m7 b7 i7 kW7 hFl hFe m16 n16 v16 r16 b16 kW16 hF hi hkw hRd' hRd hT6 hxd hDF k67 hUU hUn hUlt hdk hdkn hdkU k17 k6 hE hlen kB16
      simp only [enV, Option.isSome_none]
      gi_wp2_with fail
      refine callsIn_WR.2 ((DEL.out W7 (.refl _ _)).mono ?_)
      rintro e wA ⟨rfl, kA, -⟩
      have KA := Lib.hid kA
      have bR := (RBX.out.1.kept kA RBX.out.2)
      have hcr := bR.cell
      have hfr := bR.frozen
      clear kA bR
      gi_wp2_with fail
      have ks := Kept.one_set wA ⟨nb + 1 + 1, 0, none⟩ (.bool true)
      have kF : Kept (fun b => F b ∨ b = nb + 1 + 1) W7 (wA.setCell ⟨nb + 1 + 1, 0, none⟩ (.bool true)) := ((KA.out).mono fun _ _ e => .inl e).trans ks (fun _ _ e => .inr e)
      obtain ⟨f1, f2, f3, f4, f5, f6⟩ := FIN.out
      have hdk2 := (kF.block dk (Array.getElem?_eq_some_iff.1 f1).1 (fun e => e.elim f2 f3)).trans f1
      refine leaves_marks [dk] _ (by simp) (fun d hd => by rw [List.mem_singleton.1 hd]; exact hdk2) (fun W' kd' => ?_)
      have hb := ((RBX.out.1.kept (KA.out) RBX.out.2).set (.bool true)).kept kd' (fun e => f3 (List.mem_singleton.1 e).symm)
      refine ⟨_, results_box rfl Try.underlying4 rfl rfl hb, rfl, ?_⟩
      exact (f4.trans kF (fun b hb e => e.elim (f5 b hb) (fun e => by omega))).trans kd' (fun b hb e => by have := List.mem_singleton.1 e; omega)
end Go.Proofs.Ytalahbmahpgkeaa
