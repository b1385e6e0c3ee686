/- LruStops, walked: for any keys, any number, it answers true. -/
import Derived.Test.YteiilokhkpaoeaaSame9
import Derived.Test.YteiilokhkpaoeaaBoth9
import Derived.Test.YteiilokhkpaoeaaShown9
import Derived.Test.YteiilokhkpaoeaaTexts
namespace Go.Proofs.Yteiilokhkpaoeaa
set_option linter.unusedVariables false
set_option linter.unusedSimpArgs false
open Go.RowKit Go.MapKept

/-- What LruStops has of its own while it ranges: told, n, the document's list, the result. -/
structure StopsOwn (tb nb wb rb br : Nat) (sv : Value) (ps : List P9) (m told : Nat) (U : Nat → Prop) (W : World) : Prop where
  bt : Box W tb (.int .i64 told)
  bn : Box W nb (.int .i64 m)
  bw : Box W wb (.pointer (some ⟨br, 0, none⟩))
  bb : Box W rb (.bool false)
  r : Ref9 W br 100 sv ps
  u : U tb ∧ U nb ∧ U wb ∧ U rb ∧ ∀ b, Rfp br sv b → U b
theorem StopsOwn.kept {tb nb wb rb br : Nat} {sv : Value} {ps : List P9} {m told : Nat} {U : Nat → Prop} {W W' : World} (h : StopsOwn tb nb wb rb br sv ps m told U W) (k : Kept (fun b => ¬ U b) W W') : StopsOwn tb nb wb rb br sv ps m told U W' :=
  ⟨h.bt.kept k (fun e => e h.u.1), h.bn.kept k (fun e => e h.u.2.1), h.bw.kept k (fun e => e h.u.2.2.1), h.bb.kept k (fun e => e h.u.2.2.2.1), h.r.kept k (fun b hb e => e (h.u.2.2.2.2 b hb)), h.u⟩

set_option maxRecDepth 100000 in
set_option maxHeartbeats 2000000 in
theorem stops_any (a : Option Addr) (n c : Nat) (ss : Nat → ByteArray) (m0 : Int) (w : World) (hs : Texts w a n ss) (hn : n ≤ 9223372036854775807) :
    Calls Try.prog 6 #[.slice a n c, .int .i64 m0] w fun e w' => e = .returned (.bool true) ∧ Kept (fun _ => False) w w' := by
  have HS := Lib.hid hs
  clear hs
  obtain ⟨m, hm, hm64⟩ : ∃ m : Nat, bits BinOp.and IntKind.i64 m0 63 = (m : Int) ∧ m < 64 := by
    obtain ⟨m, hm, h⟩ := mask_nat m0 6 (by omega) 63 (by decide)
    exact ⟨m, hm, by omega⟩
  refine callsIn_WR (ro := none) (n := 0).1 (callsIn_of_wp_marks Try.func6 rfl trivial ?_ rfl)
  simp only [Try.ntmps6, List.size_toArray, List.length_cons, List.length_nil, Nat.reduceAdd, Nat.reduceSub, Array.replicate_succ, Array.replicate_zero, List.push_toArray, List.append_toArray, List.nil_append, List.cons_append]
  gi_wp2_with fail
  obtain ⟨W0, hW0⟩ : ∃ W0, W0 = (w.alloc (.cells #[.int .i64 m0] 3)).alloc (.cells #[.bool false] 4) := ⟨_, rfl⟩
  have kW0 : Kept (fun _ => False) w W0 := by rw [hW0]; exact ((Kept.refl _ w).alloc _).alloc _
  have bn0 : Box W0 w.heap.size (.int .i64 m0) := by rw [hW0]; exact (Box.new w _ 3).alloc _
  have br0 : Box W0 (w.heap.size + 1) (.bool false) := by rw [hW0]; have := Box.new (w.alloc (.cells #[.int .i64 m0] 3)) (.bool false) 4; rwa [World.size_alloc] at this
  have zW0 : W0.heap.size = w.heap.size + 2 := by rw [hW0]; simp
  obtain ⟨nb, hnb⟩ : ∃ nb, w.heap.size = nb := ⟨_, rfl⟩
  rw [hnb] at bn0 br0 zW0
  obtain ⟨rb, hrb⟩ : ∃ rb, nb + 1 = rb := ⟨_, rfl⟩
  rw [hrb] at br0
  rw [← hW0, hnb, hrb]
  clear hW0
  have HNB := Lib.hid (And.intro hnb hrb)
  clear hnb hrb
  refine callsIn_WR.2 ((shown9 W0).mono ?_)
  rintro e w0 ⟨rfl, k0⟩
  gi_wp2_with fail
  refine callsIn_WR.2 ((SI.new_own _ w0).mono ?_)
  rintro e w1 ⟨bl, bm, rfl, hL, k1, gl, gm⟩
  rw [show max (100 : Int) 1 = 100 by omega] at hL
  gi_wp2_with fail
  refine callsIn_WR.2 ((ref9_new 100 w1).mono ?_)
  rintro e w2 ⟨rfl, hR, kR⟩
  rw [show max (100 : Int) 1 = 100 by omega] at hR
  obtain ⟨br, hbr⟩ : ∃ br, w1.heap.size = br := ⟨_, rfl⟩
  rw [hbr] at hR ⊢
  have hL2 := hL.kept kR (fun _ _ e => e)
  have hdis : ∀ b, Rfp br (.slice none 0 0) b → ¬ Lfp bl bm ([] : List (Ent ByteArray Int)) b := by
    rintro b (rfl | h) hl
    · have := hL.lt b hl; omega
    · cases h
  have hB2 : Both w2 bl bm br 100 (.slice none 0 0) [] := ⟨hL2, hR, hdis, by simp⟩
  gi_wp2_with fail
  obtain ⟨wb, hwb⟩ : ∃ wb, w2.heap.size = wb := ⟨_, rfl⟩
  obtain ⟨W4, hW4⟩ : ∃ W4, W4 = w2.alloc (.cells #[.pointer (some ⟨br, 0, none⟩)] 51) := ⟨_, rfl⟩
  have k4 : Kept (fun _ => False) w2 W4 := by rw [hW4]; exact Kept.one_alloc w2 _
  have bw4 : Box W4 wb (.pointer (some ⟨br, 0, none⟩)) := by rw [hW4, ← hwb]; exact Box.new w2 _ 51
  have z4 : W4.heap.size = wb + 1 := by rw [hW4, ← hwb]; simp
  rw [← hW4, hwb]
  clear hW4
  have hk24 : W0.heap.size ≤ w0.heap.size ∧ w0.heap.size ≤ w1.heap.size ∧ w1.heap.size ≤ w2.heap.size := ⟨k0.size, k1.size, kR.size⟩
  have K4 := Lib.hid (show Kept (fun _ => False) w W4 from ((((kW0.trans k0 (fun _ _ e => e)).trans k1 (fun b hb e => by have := HNB.out.1; omega)).trans kR (fun _ _ e => e)).trans k4 (fun _ _ e => e)))
  have hB4 := hB2.kept k4 (fun _ _ e => e)
  have bn4 := (((bn0.kept k0 (fun e => e)).kept k1 (by omega)).kept kR (fun e => e)).kept k4 (fun e => e)
  have br4 := (((br0.kept k0 (fun e => e)).kept k1 (by have := HNB.out.2; omega)).kept kR (fun e => e)).kept k4 (fun e => e)
  have hrb : nb < rb ∧ rb < wb ∧ wb < W4.heap.size := by have := HNB.out.2; omega
  have hfp4 : ∀ b, Bfp bl bm br (.slice none 0 0) ([] : List (Ent ByteArray Int)) b → nb ≤ b ∧ b ≠ nb ∧ b ≠ rb ∧ b ≠ wb := by
    have := HNB.out.2
    intro b hb
    have hlt := hB2.lt b hb
    rcases hb with (h | h | ⟨x, hx, _⟩) | (h | h)
    · omega
    · omega
    · cases hx
    · omega
    · cases h
  have HF4 := Lib.hid hfp4
  have HB4 := Lib.hid hB4
  clear k0 k1 kR k4 kW0 bn0 br0 zW0 hL hR hL2 hdis hB2 hbr hwb hfp4 hB4 hk24 gl gm
  have FR := Lib.hid (And.intro bn4 (And.intro br4 bw4))
  clear bn4 br4 bw4
  gi_loopw [8] (fun i wr => ∃ (k : Nat) (xs : List (Ent ByteArray Int)) (sv : Value), k ≤ n ∧ k ≤ 50 ∧ i = .int .i64 k ∧ Both wr bl bm br 100 sv xs ∧ xs.length ≤ k ∧ (∀ b, Bfp bl bm br sv xs b → nb ≤ b ∧ b ≠ nb ∧ b ≠ rb ∧ b ≠ wb) ∧ Kept (fun b => nb ≤ b ∧ b ≠ nb ∧ b ≠ rb ∧ b ≠ wb) W4 wr) (fun i _ => n - (intOf i).toNat)
  case atStart => exact ⟨0, [], _, Nat.zero_le _, by omega, rfl, HB4.out, by simp, HF4.out, .refl _ _⟩
  case round =>
    obtain ⟨k, xs, sv, hk, hk50, rfl, hx, hlen, hge, hkr⟩ := hrel
    clear HB4 HF4
    have HG := Lib.hid hge
    clear hge
    by_cases hlt : k < n ∧ k < 50
    · obtain ⟨hlt, h50⟩ := hlt
      obtain ⟨b, o, rfl, hb, hc⟩ := HS.out k hlt
      have hb' : b < W4.heap.size ∧ b < nb := by have := K4.out.size; have := HNB.out.1; omega
      have hcell : wr.cell? ⟨b, o + k, none⟩ = some (.string (ss k)) := (hkr.cell (p := ⟨b, o + k, none⟩) hb'.1 (by simp; omega)).trans ((K4.out.cell (p := ⟨b, o + k, none⟩) hb (fun e => e)).trans hc)
      generalize ss k = key at hcell
      clear hc
      gi_wp2_with fail
      refine callsIn_WR.2 ((SI.put_any hx.l (by omega)).mono ?_)
      rintro e w5 ⟨rfl, h5, k5, z5⟩
      have hR5 := hx.ref1 k5
      have hcell5 : w5.cell? ⟨b, o + k, none⟩ = some (.string key) := (k5.cell (p := ⟨b, o + k, none⟩) (Nat.lt_of_lt_of_le hb'.1 hkr.size) (fun e => by have := HG.out b (.inl e); omega)).trans hcell
      have bw5 := ((FR.out.2.2.kept hkr (by simp)).kept k5 (fun e => (HG.out wb (.inl e)).2.2.2 rfl)).cell
      obtain ⟨hp1, hp2, hp3⟩ := prs_put (most := 100) (nb := wr.heap.size) (k := key) (v := (k : Int)) hx.l.keys hx.len (by omega)
      have hl3 := putE_len 100 wr.heap.size key (k : Int) xs
      have HX := Lib.hid hx
      have H5 := Lib.hid h5
      have K5 := Lib.hid k5
      have HKR := Lib.hid hkr
      clear hx h5 k5 z5 hkr hcell
      gi_wp2_with fail
      obtain ⟨w6, hw6, t6⟩ : ∃ w6, w6 = ({ w5 with drawn := w5.drawn + 1 } : World) ∧ Twin w6 w5 := ⟨_, rfl, rfl, rfl, rfl, rfl⟩
      refine wpW_region_tail 6 (by kernel_rfl) (by kernel_rfl) ?_
      rw [← hw6]
      simp only [List.take_succ_cons, List.take_zero, List.drop_succ_cons, List.drop_zero]
      have bw6 : w6.cell? ⟨wb, 0, none⟩ = some (.pointer (some ⟨br, 0, none⟩)) := by obtain ⟨_, rfl⟩ := t6.eq; exact bw5
      have hcell6 : w6.cell? ⟨b, o + k, none⟩ = some (.string key) := by obtain ⟨_, rfl⟩ := t6.eq; exact hcell5
      have T6 := Lib.hid t6
      clear hw6 bw5 hcell5 t6
      with_reducible refine wpStill_want (by kernel_rfl) (fun K hK => ?_); go_simp; with_reducible refine hK _ ?_; clear hK K
      with_reducible refine wpStill_want (by kernel_rfl) (fun K hK => ?_); go_simp; with_reducible refine hK _ ?_; clear hK K
      with_reducible refine wpStill_want (by kernel_rfl) (fun K hK => ?_); go_simp; with_reducible refine hK _ ?_; clear hK K
      with_reducible refine wpStill_want (by kernel_rfl) (fun K hK => ?_); go_simp; with_reducible refine hK _ ?_; clear hK K
      with_reducible refine wpStill_want (by kernel_rfl) (fun K hK => ?_); go_simp; with_reducible refine hK _ ?_; clear hK K
      with_reducible refine wpStill_want (by kernel_rfl) (fun K hK => ?_); go_simp; with_reducible refine hK _ ?_; clear hK K
      refine wpStill_nil ?_
      gi_wp2_with fail
      refine callsIn_WR.2 ((ref9_put_any (hR5.twin T6.out) (by rw [prs_len]; omega) HX.out.keys).mono ?_)
      rintro e w7 ⟨rfl, sv7, hR7, k7, f7⟩
      rw [hp1] at hR7
      obtain ⟨hB7, kB7, fB7⟩ := HX.out.step (H5.out.twin T6.out) (K5.out.twin T6.out) (fun b hb => (fp_put hb).imp id (fun e => by omega)) hR7 k7 f7 hp3
      have H7 := Lib.hid (show Both w7 bl bm br 100 sv7 (putE 100 wr.heap.size key (k : Int) xs) ∧ (∀ b, Bfp bl bm br sv7 (putE 100 wr.heap.size key (k : Int) xs) b → nb ≤ b ∧ b ≠ nb ∧ b ≠ rb ∧ b ≠ wb) ∧ Kept (fun b => nb ≤ b ∧ b ≠ nb ∧ b ≠ rb ∧ b ≠ wb) W4 w7 from
        ⟨hB7, fun b hb => (fB7 b hb).elim (HG.out b) (fun h => by have := HKR.out.size; omega), HKR.out.trans kB7 (fun b _ e => HG.out b e)⟩)
      clear hR7 k7 f7 hB7 kB7 fB7 hR5 hp1 hp2 hp3 bw6 hcell6
      gi_wp2_with fail
      go_roundw
      case rel => exact ⟨k + 1, _, sv7, by omega, by omega, by go_num, H7.out.1, by omega, H7.out.2.1, H7.out.2.2⟩
      case measure => simp [intOf]; omega
    · have hsp : (k < n ∧ k = 50) ∨ ¬ k < n := by omega
      obtain ⟨sa, sc, hsv, -, -, -⟩ := own_form hx.r.own
      rw [prs_len] at hsv
      subst hsv
      have HX := Lib.hid hx
      have bnr := FR.out.1.kept hkr (by simp)
      have brr := FR.out.2.1.kept hkr (by simp)
      have bwr := FR.out.2.2.kept hkr (by simp)
      have hcn := bnr.cell
      have hfn := bnr.frozen
      have HKR := Lib.hid hkr
      have hl50 : xs.length ≤ 50 := by omega
      have hlw := hkr.size
      clear hx hkr hlt
      rcases hsp with ⟨hlt, rfl⟩ | hlt
      all_goals
        gi_wp2_with fail
        obtain ⟨tb, htb⟩ : ∃ tb, wr.heap.size = tb := ⟨_, rfl⟩
        obtain ⟨w5, hw5⟩ : ∃ w5, w5 = (wr.setCell ⟨nb, 0, none⟩ (.int .i64 m)).alloc (.cells #[.int .i64 0] 3) := ⟨_, rfl⟩
        have k5 : Kept (fun b => b = nb) wr w5 := by rw [hw5]; exact (Kept.one_set wr ⟨nb, 0, none⟩ _).alloc _
        have zs : (wr.setCell ⟨nb, 0, none⟩ (.int .i64 m)).heap.size = wr.heap.size := by simp [World.setCell]
        have bt5 : Box w5 tb (.int .i64 0) := by rw [hw5, ← htb, ← zs]; exact Box.new _ _ 3
        have bn5 : Box w5 nb (.int .i64 m) := by rw [hw5]; exact (bnr.set _).alloc _
        have br5 := brr.kept k5 (by omega)
        have bw5 := bwr.kept k5 (by omega)
        have hB5 := HX.out.kept k5 (fun b hb => (HG.out b hb).2.1)
        have z5 : w5.heap.size = tb + 1 := by rw [hw5, World.size_alloc, zs, htb]
        rw [← hw5, htb]
        clear hw5 zs bnr brr bwr hcn hfn
        refine callsIn_WR.2 ((SI.all_own bl w5).mono ?_)
        rintro e w6 ⟨bx0, rfl, _, k6, _⟩
        have hnf := run_eq_nilFunc (P := Try.prog) w6 (.func 55) #[] #[.pointer (some ⟨bx0, 0, none⟩)] Try.underlying55
        gi_wp2_with fail
        refine callsIn_WR.2 ((SI.all_own bl w6).mono ?_)
        rintro e w7 ⟨bx, rfl, hbx, k7, gx⟩
        gi_wp2_with fail
        have k57 : Kept (fun _ => False) w5 w7 := k6.trans k7 (fun _ _ e => e)
        have bt7 := bt5.kept k57 (fun e => e)
        have bn7 := bn5.kept k57 (fun e => e)
        have br7 := br5.kept k57 (fun e => e)
        have bw7 := bw5.kept k57 (fun e => e)
        have hB7 := hB5.kept k57 (fun _ _ e => e)
        have hRd : SI.Rd bx bl bm 100 xs w7 := ⟨hbx.cell, hbx.lt, hB7.l⟩
        have hord : nb < rb ∧ rb < wb ∧ wb < tb ∧ tb < bx ∧ bx < w7.heap.size := by have := k6.size; have := hbx.lt; omega
        have K7 := Lib.hid (show Kept (fun b => nb ≤ b) W4 w7 from (((HKR.out.mono (S' := fun b => nb ≤ b) (fun b _ e => e.1)).trans k5 (fun b _ e => by omega)).trans k57 (fun _ _ e => e.elim)))
        have hBlt : ∀ b, Bfp bl bm br (.slice sa xs.length sc) xs b → b < tb := fun b hb => by rw [← htb]; exact HX.out.lt b hb
        have HBL := Lib.hid hBlt
        have HB7 := Lib.hid hB7
        clear bt5 bn5 br5 bw5 hB5 k5 k6 k7 hnf hBlt
        refine wpW_range (SI.all1 bx bl bm 100 xs) rfl SI.enters (fun _ => rfl) (fun (pre : List (Ent ByteArray Int)) U W => StopsOwn tb nb wb rb br (.slice sa xs.length sc) (prs xs) m pre.length U W ∧ pre.length ≤ m)
          (fun c U W => (c = .exit 2 ∧ m ≤ xs.length) ∧ StopsOwn tb nb wb rb br (.slice sa xs.length sc) (prs xs) m m U W) (fun b => b = tb ∨ b = nb ∨ b = wb ∨ b = rb ∨ Rfp br (.slice sa xs.length sc) b)
          (fun (pre : List (Ent ByteArray Int)) _ _ _ h k => ⟨StopsOwn.kept h.1 k, h.2⟩) (fun _ _ _ _ h k => ⟨h.1, StopsOwn.kept h.2 k⟩) ?_ ?_ ?_ hRd ?_ ⟨⟨bt7, bn7, bw7, br7, hB7.r, by simp, by simp, by simp, by simp, fun b hb => .inr (.inr (.inr (.inr hb)))⟩, by simp⟩ ?_ ?_ ?_
        · rintro b hu (rfl | hd)
          · rcases hu with h | h | h | h | h
            · omega
            · omega
            · omega
            · omega
            · have := HBL.out b (.inr h); omega
          · have h1 := HG.out b (.inl hd)
            have h2 := HBL.out b (.inl hd)
            rcases hu with h | h | h | h | h
            · omega
            · omega
            · omega
            · omega
            · exact HB7.out.dis b h hd
        · rintro b (rfl | hd)
          · exact hbx.lt
          · exact hB7.l.lt b hd
        · rintro b (h | h | h | h | h)
          · omega
          · omega
          · omega
          · omega
          · exact hB7.r.lt b h
        · exact fun W W' h k => h.kept k (fun e => e (.inl rfl)) (fun b hb e => e (.inr hb))
        · intro l pre y rest U' W hitems hi hlt' hD' hRd' hl hlD hlW hUU
          have HLT := Lib.hid hlt'
          have HIT := Lib.hid hitems
          clear hUU hlt' hD' hRd' hlD hitems bt7 bn7 br7 bw7 hB7 hRd hbx
          simp only [List.zip_toArray, List.zip_cons_cons, List.zip_nil_left, List.foldl_toArray', List.foldl_cons, List.foldl_nil, List.setIfInBounds_toArray, List.set_cons_succ, List.set_cons_zero]
          gi_wp2_with (rw [Oper.semAt_eq _ _ _ (fun c h => by cases h)]; go_simp; try go_bits)
          refine ⟨trivial, ?_⟩
          intro W2 kl zl
          have ZL := Lib.hid zl
          clear zl
          obtain ⟨hi, hpm⟩ := hi
          have hi2 := hi.kept (kl.mono fun b _ e h => by subst e; exact hl h)
          have HI2 := Lib.hid hi2
          have hplen : (pre ++ [y]).length = pre.length + 1 := by simp
          have HPL := Lib.hid hplen
          have hpN : pre.length < xs.length := by rw [HIT.out]; simp
          have hpi : (prs xs)[pre.length]? = some (y.k, y.v) := by rw [HIT.out]; simp [prs]
          obtain ⟨g', c', e0, hc1, -⟩ := hi2.r.at hpi
          have hct := hi2.bt.cell
          have hft := hi2.bt.frozen
          have hcn := hi2.bn.cell
          have hcw := hi2.bw.cell
          have hs2 := hi2.r.sl
          injection e0 with e1 e2 e3
          obtain ⟨p, hp⟩ : ∃ p, p = pre.length := ⟨_, rfl⟩
          rw [← hp] at hc1 hct hpN hpm
          have HP := Lib.hid hp
          subst e1
          obtain ⟨N, hN⟩ : ∃ N, N = xs.length := ⟨_, rfl⟩
          rw [← hN] at hs2 hpN
          have hN50 : N ≤ 50 := by omega
          have HN := Lib.hid hN
          clear hplen hpi hp e2 e3 hi hi2 hN
          by_cases hpe : p = m
          · rw [hpe] at hct
            gi_wp2_with (rw [Oper.semAt_eq _ _ _ (fun c h => by cases h)]; go_simp; try go_bits)
            have hend := round_plain kl hl HLT.out hlW (Kept.refl U' W2)
            refine ⟨hend.1, U', hend.2.1, hl, hend.2.2.2, ⟨rfl, by have := HN.out; omega⟩, ?_⟩
            have := HI2.out
            rwa [← HP.out, hpe] at this
          · have hpme : ((p : Int) == (m : Int)) = false := by rw [beq_eq_false_iff_ne]; omega
            gi_wp2_with (rw [Oper.semAt_eq _ _ _ (fun c h => by cases h)]; go_simp; try go_bits)
            obtain ⟨w5, hw5, t5⟩ : ∃ w5, w5 = ({ W2 with drawn := W2.drawn + 1 } : World) ∧ Twin w5 W2 := ⟨_, rfl, rfl, rfl, rfl, rfl⟩
            refine wpW_region_still (by kernel_rfl) (by kernel_rfl) ?_
            rw [← hw5]
            have hct6 : w5.cell? ⟨tb, 0, none⟩ = some (.int .i64 p) := by obtain ⟨_, rfl⟩ := t5.eq; exact hct
            have hft6 : w5.frozen? ⟨tb, 0, none⟩ = false := by obtain ⟨_, rfl⟩ := t5.eq; exact hft
            have hcw6 : w5.cell? ⟨wb, 0, none⟩ = some (.pointer (some ⟨br, 0, none⟩)) := by obtain ⟨_, rfl⟩ := t5.eq; exact hcw
            have hs6 : w5.cell? ⟨br, 1, none⟩ = some (.slice (some ⟨g', 0, none⟩) N sc) := by obtain ⟨_, rfl⟩ := t5.eq; exact hs2
            have hc16 : w5.cell? ⟨g', p * 2, none⟩ = some (.string y.k) := by obtain ⟨_, rfl⟩ := t5.eq; exact hc1
            have hby := bytes_self y.k
            have K6 := Lib.hid ((Kept.refl (fun _ => False) W2).twin t5)
            clear hw5 t5 hct hft hcw hs2 hc1 hcn
            with_reducible refine wpStill_want (by kernel_rfl) (fun K hK => ?_); go_simp; with_reducible refine hK _ ?_; clear hK K
            with_reducible refine wpStill_want (by kernel_rfl) (fun K hK => ?_); go_simp; with_reducible refine hK _ ?_; clear hK K
            with_reducible refine wpStill_want (by kernel_rfl) (fun K hK => ?_); go_simp; with_reducible refine hK _ ?_; clear hK K
            with_reducible refine wpStill_want (by kernel_rfl) (fun K hK => ?_); go_simp; with_reducible refine hK _ ?_; clear hK K
            with_reducible refine wpStill_want (by kernel_rfl) (fun K hK => ?_); go_simp; with_reducible refine hK _ ?_; clear hK K
            with_reducible refine wpStill_want (by kernel_rfl) (fun K hK => ?_); go_simp; with_reducible refine hK _ ?_; clear hK K
            with_reducible refine wpStill_want (by kernel_rfl) (fun K hK => ?_); go_simp; with_reducible refine hK _ ?_; clear hK K
            with_reducible refine wpStill_want (by kernel_rfl) (fun K hK => ?_); go_simp; with_reducible refine hK _ ?_; clear hK K
            with_reducible refine wpStill_want (by kernel_rfl) (fun K hK => ?_); go_simp; with_reducible refine hK _ ?_; clear hK K
            with_reducible refine wpStill_want (by kernel_rfl) (fun K hK => ?_); go_simp; with_reducible refine hK _ ?_; clear hK K
            refine wpStill_nil ?_
            gi_wp2_with (rw [Oper.semAt_eq _ _ _ (fun c h => by cases h)]; go_simp; try go_bits)
            have kall : Kept (fun b => b = tb) W2 (w5.setCell ⟨tb, 0, none⟩ (.int .i64 ((p : Int) + 1))) := (K6.out.mono (S' := fun b => b = tb) (fun _ _ e => e.elim)).trans (Kept.one_set w5 ⟨tb, 0, none⟩ (.int .i64 ((p : Int) + 1))) (fun _ _ e => e)
            obtain ⟨h1, h2, h3, h4, h5, hu⟩ := HI2.out
            have hend := round_plain kl hl HLT.out hlW (kall.mono (S' := U') (fun b _ e => by rw [e]; exact hu.1))
            have hub : ∀ b, Rfp br (.slice (some ⟨g', 0, none⟩) xs.length sc) b → b ≠ tb := fun b hb => by have := HBL.out b (.inr hb); omega
            refine ⟨hend.1, U', hend.2.1, hl, hend.2.2.2, ⟨?_, h2.kept kall (by omega), h3.kept kall (by omega), h4.kept kall (by omega), h5.kept kall (fun b hb e => hub b hb e), hu⟩, by rw [HPL.out]; have := HP.out; omega⟩
            have h := ((h1.kept K6.out (fun e => e))).set (.int .i64 ((p : Int) + 1))
            rw [show ((((pre ++ [y]).length : Nat)) : Int) = (p : Int) + 1 by rw [HPL.out]; have := HP.out; omega]
            exact h
        · intro dk U3 W3 hi kw hRd' hdk hdkn hdkU hUU hUn hUlt
          have hmin : min (m : Int) (xs.length : Int) = (xs.length : Int) := by have := hi.2; omega
          have hile := hi.2
          by_cases hNm : xs.length < m
          · obtain ⟨hi1, hi2, hi3, hi4, hi5, -⟩ := hi.1
            have hci := hi1.cell
            have hcn := hi2.cell
            have hcw := hi3.cell
            have hs9 := hi5.sl
            have BR := Lib.hid hi4
            have R9 := Lib.hid hi5
            have KW := Lib.hid kw
            have L9 := Lib.hid hRd'.2.2
            have bw8 := hi3
            clear hi1 hi2 hi3 hi4 hi5 kw hRd' hRd hB7 bt7 bn7 br7 bw7 hbx
            gi_wp2_with fail
            obtain ⟨w5, hw5, t5⟩ : ∃ w5, w5 = ({ W3 with drawn := W3.drawn + 1 } : World) ∧ Twin w5 W3 := ⟨_, rfl, rfl, rfl, rfl, rfl⟩
            refine wpW_region_tail 15 (by kernel_rfl) (by kernel_rfl) ?_
            rw [← hw5]
            simp only [List.take_succ_cons, List.take_zero, List.drop_succ_cons, List.drop_zero]
            obtain ⟨N, hN⟩ : ∃ N, N = xs.length := ⟨_, rfl⟩
            rw [← hN] at hs9 hmin
            try rw [← hN] at hci
            have hct6 : w5.cell? ⟨tb, 0, none⟩ = some (.int .i64 ((N : Nat) : Int)) := by obtain ⟨_, rfl⟩ := t5.eq; exact hci
            have hcn6 : w5.cell? ⟨nb, 0, none⟩ = some (.int .i64 (m : Int)) := by obtain ⟨_, rfl⟩ := t5.eq; exact hcn
            have hcw6 : w5.cell? ⟨wb, 0, none⟩ = some (.pointer (some ⟨br, 0, none⟩)) := by obtain ⟨_, rfl⟩ := t5.eq; exact hcw
            have hs6 : w5.cell? ⟨br, 1, none⟩ = some (.slice sa N sc) := by obtain ⟨_, rfl⟩ := t5.eq; exact hs9
            have hlt1 : N < m := by omega
            have hlt2 : (N : Int) < (m : Int) := by omega
            have T5 := Lib.hid t5
            have HN := Lib.hid hN
            clear hw5 t5 hci hcn hcw hs9 hN
            with_reducible refine wpStill_want (by kernel_rfl) (fun K hK => ?_); go_simp; with_reducible refine hK _ ?_; clear hK K
            with_reducible refine wpStill_want (by kernel_rfl) (fun K hK => ?_); go_simp; with_reducible refine hK _ ?_; clear hK K
            with_reducible refine wpStill_want (by kernel_rfl) (fun K hK => ?_); go_simp; with_reducible refine hK _ ?_; clear hK K
            with_reducible refine wpStill_want (by kernel_rfl) (fun K hK => ?_); go_simp; with_reducible refine hK _ ?_; clear hK K
            with_reducible refine wpStill_want (by kernel_rfl) (fun K hK => ?_); go_simp; with_reducible refine hK _ ?_; clear hK K
            with_reducible refine wpStill_want (by kernel_rfl) (fun K hK => ?_); go_simp; with_reducible refine hK _ ?_; clear hK K
            with_reducible refine wpStill_want (by kernel_rfl) (fun K hK => ?_); go_simp; with_reducible refine hK _ ?_; clear hK K
            with_reducible refine wpStill_want (by kernel_rfl) (fun K hK => ?_); go_simp; with_reducible refine hK _ ?_; clear hK K
            with_reducible refine wpStill_want (by kernel_rfl) (fun K hK => ?_); go_simp; with_reducible refine hK _ ?_; clear hK K
            with_reducible refine wpStill_want (by kernel_rfl) (fun K hK => ?_); go_simp; with_reducible refine hK _ ?_; clear hK K
            with_reducible refine wpStill_want (by kernel_rfl) (fun K hK => ?_); go_simp; with_reducible refine hK _ ?_; clear hK K
            with_reducible refine wpStill_want (by kernel_rfl) (fun K hK => ?_); go_simp; with_reducible refine hK _ ?_; clear hK K
            with_reducible refine wpStill_want (by kernel_rfl) (fun K hK => ?_); go_simp; with_reducible refine hK _ ?_; clear hK K
            with_reducible refine wpStill_want (by kernel_rfl) (fun K hK => ?_); go_simp; with_reducible refine hK _ ?_; clear hK K
            with_reducible refine wpStill_want (by kernel_rfl) (fun K hK => ?_); go_simp; with_reducible refine hK _ ?_; clear hK K
            refine wpStill_nil ?_
            gi_wp2_with fail
            refine callsIn_WR.2 ((same_any (L9.out.twin T5.out) (R9.out.twin T5.out) HB7.out.dis (by omega)).mono ?_)
            rintro e w8 ⟨rfl, k8, r8⟩
            have hbr8 := (BR.out.twin T5.out).kept k8 (fun e => (HG.out rb (.inr e)).2.2.1 rfl)
            have hcr8 := hbr8.cell
            have hfr8 := hbr8.frozen
            gi_wp2_with fail
            have hdlt := (Array.getElem?_eq_some_iff.1 hdk).1
            have hrd : rb < dk := by omega
            have kx8 : Kept (fun b => nb ≤ b) w w8 := by
              refine (((K4.out.mono (S' := fun b => nb ≤ b) (fun _ _ e => e.elim)).trans K7.out (fun _ _ e => e)).trans KW.out (fun b _ e => ?_)).trans ((Kept.refl (fun b => nb ≤ b) W3).twin T5.out |>.trans k8 (fun b _ e => (HG.out b (.inr e)).1)) (fun _ _ e => e)
              rcases e with e | e | e | e | e
              · omega
              · omega
              · omega
              · omega
              · exact (HG.out b (.inr e)).1
            refine leaves_marks [dk] _ (by simp) (fun d hd => ?_) (fun W' kd => ?_)
            · rw [List.mem_singleton.1 hd]
              refine (Below.heap_setCell _ _ _ _ (by simp; omega)).trans ((k8.block dk (by rw [T5.out.heap]; exact hdlt) (fun e => ?_)).trans ?_)
              · have := HBL.out dk (.inr e); omega
              · rw [T5.out.heap]; exact hdk
            · have hb := (hbr8.set (.bool true)).kept kd (by simp; omega)
              refine ⟨_, results_box rfl Try.underlying4 rfl rfl hb, rfl, ?_⟩
              refine ((kx8.setCell ⟨rb, 0, none⟩ (.bool true) (fun _ => by show nb ≤ rb; omega)).trans kd (fun b _ e => by have := List.mem_singleton.1 e; omega)).mono (fun b hb e => ?_)
              have := HNB.out.1
              omega
          · have hxm : xs.length = m := by omega
            obtain ⟨hi1, hi2, hi3, hi4, hi5, -⟩ := hi.1
            have hci := hi1.cell
            rw [hxm] at hci
            have hcn := hi2.cell
            have hcw := hi3.cell
            have hs9 := hi5.sl
            have BR := Lib.hid hi4
            have R9 := Lib.hid hi5
            have KW := Lib.hid kw
            have L9 := Lib.hid hRd'.2.2
            have bw8 := hi3
            clear hi1 hi2 hi3 hi4 hi5 kw hRd' hRd hB7 bt7 bn7 br7 bw7 hbx
            gi_wp2_with fail
            obtain ⟨w5, hw5, t5⟩ : ∃ w5, w5 = ({ W3 with drawn := W3.drawn + 1 } : World) ∧ Twin w5 W3 := ⟨_, rfl, rfl, rfl, rfl, rfl⟩
            refine wpW_region_tail 15 (by kernel_rfl) (by kernel_rfl) ?_
            rw [← hw5]
            simp only [List.take_succ_cons, List.take_zero, List.drop_succ_cons, List.drop_zero]
            rw [hxm] at hs9 hmin
            have hN : m = xs.length := hxm.symm
            have hct6 : w5.cell? ⟨tb, 0, none⟩ = some (.int .i64 ((m : Nat) : Int)) := by obtain ⟨_, rfl⟩ := t5.eq; exact hci
            have hcn6 : w5.cell? ⟨nb, 0, none⟩ = some (.int .i64 (m : Int)) := by obtain ⟨_, rfl⟩ := t5.eq; exact hcn
            have hcw6 : w5.cell? ⟨wb, 0, none⟩ = some (.pointer (some ⟨br, 0, none⟩)) := by obtain ⟨_, rfl⟩ := t5.eq; exact hcw
            have hs6 : w5.cell? ⟨br, 1, none⟩ = some (.slice sa m sc) := by obtain ⟨_, rfl⟩ := t5.eq; exact hs9
            have T5 := Lib.hid t5
            have HN := Lib.hid hN
            clear hw5 t5 hci hcn hcw hs9 hN hxm hNm
            with_reducible refine wpStill_want (by kernel_rfl) (fun K hK => ?_); go_simp; with_reducible refine hK _ ?_; clear hK K
            with_reducible refine wpStill_want (by kernel_rfl) (fun K hK => ?_); go_simp; with_reducible refine hK _ ?_; clear hK K
            with_reducible refine wpStill_want (by kernel_rfl) (fun K hK => ?_); go_simp; with_reducible refine hK _ ?_; clear hK K
            with_reducible refine wpStill_want (by kernel_rfl) (fun K hK => ?_); go_simp; with_reducible refine hK _ ?_; clear hK K
            with_reducible refine wpStill_want (by kernel_rfl) (fun K hK => ?_); go_simp; with_reducible refine hK _ ?_; clear hK K
            with_reducible refine wpStill_want (by kernel_rfl) (fun K hK => ?_); go_simp; with_reducible refine hK _ ?_; clear hK K
            with_reducible refine wpStill_want (by kernel_rfl) (fun K hK => ?_); go_simp; with_reducible refine hK _ ?_; clear hK K
            with_reducible refine wpStill_want (by kernel_rfl) (fun K hK => ?_); go_simp; with_reducible refine hK _ ?_; clear hK K
            with_reducible refine wpStill_want (by kernel_rfl) (fun K hK => ?_); go_simp; with_reducible refine hK _ ?_; clear hK K
            with_reducible refine wpStill_want (by kernel_rfl) (fun K hK => ?_); go_simp; with_reducible refine hK _ ?_; clear hK K
            with_reducible refine wpStill_want (by kernel_rfl) (fun K hK => ?_); go_simp; with_reducible refine hK _ ?_; clear hK K
            with_reducible refine wpStill_want (by kernel_rfl) (fun K hK => ?_); go_simp; with_reducible refine hK _ ?_; clear hK K
            with_reducible refine wpStill_want (by kernel_rfl) (fun K hK => ?_); go_simp; with_reducible refine hK _ ?_; clear hK K
            with_reducible refine wpStill_want (by kernel_rfl) (fun K hK => ?_); go_simp; with_reducible refine hK _ ?_; clear hK K
            with_reducible refine wpStill_want (by kernel_rfl) (fun K hK => ?_); go_simp; with_reducible refine hK _ ?_; clear hK K
            refine wpStill_nil ?_
            gi_wp2_with fail
            refine callsIn_WR.2 ((same_any (L9.out.twin T5.out) (R9.out.twin T5.out) HB7.out.dis (by omega)).mono ?_)
            rintro e w8 ⟨rfl, k8, r8⟩
            have hbr8 := (BR.out.twin T5.out).kept k8 (fun e => (HG.out rb (.inr e)).2.2.1 rfl)
            have hcr8 := hbr8.cell
            have hfr8 := hbr8.frozen
            gi_wp2_with fail
            have hdlt := (Array.getElem?_eq_some_iff.1 hdk).1
            have hrd : rb < dk := by omega
            have kx8 : Kept (fun b => nb ≤ b) w w8 := by
              refine (((K4.out.mono (S' := fun b => nb ≤ b) (fun _ _ e => e.elim)).trans K7.out (fun _ _ e => e)).trans KW.out (fun b _ e => ?_)).trans ((Kept.refl (fun b => nb ≤ b) W3).twin T5.out |>.trans k8 (fun b _ e => (HG.out b (.inr e)).1)) (fun _ _ e => e)
              rcases e with e | e | e | e | e
              · omega
              · omega
              · omega
              · omega
              · exact (HG.out b (.inr e)).1
            refine leaves_marks [dk] _ (by simp) (fun d hd => ?_) (fun W' kd => ?_)
            · rw [List.mem_singleton.1 hd]
              refine (Below.heap_setCell _ _ _ _ (by simp; omega)).trans ((k8.block dk (by rw [T5.out.heap]; exact hdlt) (fun e => ?_)).trans ?_)
              · have := HBL.out dk (.inr e); omega
              · rw [T5.out.heap]; exact hdk
            · have hb := (hbr8.set (.bool true)).kept kd (by simp; omega)
              refine ⟨_, results_box rfl Try.underlying4 rfl rfl hb, rfl, ?_⟩
              refine ((kx8.setCell ⟨rb, 0, none⟩ (.bool true) (fun _ => by show nb ≤ rb; omega)).trans kd (fun b _ e => by have := List.mem_singleton.1 e; omega)).mono (fun b hb e => ?_)
              have := HNB.out.1
              omega
        · rintro c1 dk U3 W3 ⟨⟨rfl, hmN⟩, hi⟩ kw hRd' hdk hdkn hdkU hUU hUn hUlt
          have hmin : min (m : Int) (xs.length : Int) = (m : Int) := by omega
          obtain ⟨hi1, hi2, hi3, hi4, hi5, -⟩ := hi
          have hci := hi1.cell
          have hcn := hi2.cell
          have hcw := hi3.cell
          have hs9 := hi5.sl
          have BR := Lib.hid hi4
          have R9 := Lib.hid hi5
          have KW := Lib.hid kw
          have L9 := Lib.hid hRd'.2.2
          have bw8 := hi3
          clear hi1 hi2 hi3 hi4 hi5 kw hRd' hRd hB7 bt7 bn7 br7 bw7 hbx
          gi_wp2_with fail
          obtain ⟨w5, hw5, t5⟩ : ∃ w5, w5 = ({ W3 with drawn := W3.drawn + 1 } : World) ∧ Twin w5 W3 := ⟨_, rfl, rfl, rfl, rfl, rfl⟩
          refine wpW_region_tail 15 (by kernel_rfl) (by kernel_rfl) ?_
          rw [← hw5]
          simp only [List.take_succ_cons, List.take_zero, List.drop_succ_cons, List.drop_zero]
          obtain ⟨N, hN⟩ : ∃ N, N = xs.length := ⟨_, rfl⟩
          rw [← hN] at hs9 hmin
          try rw [← hN] at hci
          have hct6 : w5.cell? ⟨tb, 0, none⟩ = some (.int .i64 ((m : Nat) : Int)) := by obtain ⟨_, rfl⟩ := t5.eq; exact hci
          have hcn6 : w5.cell? ⟨nb, 0, none⟩ = some (.int .i64 (m : Int)) := by obtain ⟨_, rfl⟩ := t5.eq; exact hcn
          have hcw6 : w5.cell? ⟨wb, 0, none⟩ = some (.pointer (some ⟨br, 0, none⟩)) := by obtain ⟨_, rfl⟩ := t5.eq; exact hcw
          have hs6 : w5.cell? ⟨br, 1, none⟩ = some (.slice sa N sc) := by obtain ⟨_, rfl⟩ := t5.eq; exact hs9
          have hge1 : ¬ (N < m) := by omega
          have hge2 : ¬ ((N : Int) < (m : Int)) := by omega
          have T5 := Lib.hid t5
          have HN := Lib.hid hN
          clear hw5 t5 hci hcn hcw hs9 hN
          with_reducible refine wpStill_want (by kernel_rfl) (fun K hK => ?_); go_simp; with_reducible refine hK _ ?_; clear hK K
          with_reducible refine wpStill_want (by kernel_rfl) (fun K hK => ?_); go_simp; with_reducible refine hK _ ?_; clear hK K
          with_reducible refine wpStill_want (by kernel_rfl) (fun K hK => ?_); go_simp; with_reducible refine hK _ ?_; clear hK K
          with_reducible refine wpStill_want (by kernel_rfl) (fun K hK => ?_); go_simp; with_reducible refine hK _ ?_; clear hK K
          with_reducible refine wpStill_want (by kernel_rfl) (fun K hK => ?_); go_simp; with_reducible refine hK _ ?_; clear hK K
          with_reducible refine wpStill_want (by kernel_rfl) (fun K hK => ?_); go_simp; with_reducible refine hK _ ?_; clear hK K
          with_reducible refine wpStill_want (by kernel_rfl) (fun K hK => ?_); go_simp; with_reducible refine hK _ ?_; clear hK K
          with_reducible refine wpStill_want (by kernel_rfl) (fun K hK => ?_); go_simp; with_reducible refine hK _ ?_; clear hK K
          with_reducible refine wpStill_want (by kernel_rfl) (fun K hK => ?_); go_simp; with_reducible refine hK _ ?_; clear hK K
          with_reducible refine wpStill_want (by kernel_rfl) (fun K hK => ?_); go_simp; with_reducible refine hK _ ?_; clear hK K
          with_reducible refine wpStill_want (by kernel_rfl) (fun K hK => ?_); go_simp; with_reducible refine hK _ ?_; clear hK K
          with_reducible refine wpStill_want (by kernel_rfl) (fun K hK => ?_); go_simp; with_reducible refine hK _ ?_; clear hK K
          with_reducible refine wpStill_want (by kernel_rfl) (fun K hK => ?_); go_simp; with_reducible refine hK _ ?_; clear hK K
          with_reducible refine wpStill_want (by kernel_rfl) (fun K hK => ?_); go_simp; with_reducible refine hK _ ?_; clear hK K
          with_reducible refine wpStill_want (by kernel_rfl) (fun K hK => ?_); go_simp; with_reducible refine hK _ ?_; clear hK K
          refine wpStill_nil ?_
          gi_wp2_with fail
          refine callsIn_WR.2 ((same_any (L9.out.twin T5.out) (R9.out.twin T5.out) HB7.out.dis (by omega)).mono ?_)
          rintro e w8 ⟨rfl, k8, r8⟩
          have hbr8 := (BR.out.twin T5.out).kept k8 (fun e => (HG.out rb (.inr e)).2.2.1 rfl)
          have hcr8 := hbr8.cell
          have hfr8 := hbr8.frozen
          gi_wp2_with fail
          have hdlt := (Array.getElem?_eq_some_iff.1 hdk).1
          have hrd : rb < dk := by omega
          have kx8 : Kept (fun b => nb ≤ b) w w8 := by
            refine (((K4.out.mono (S' := fun b => nb ≤ b) (fun _ _ e => e.elim)).trans K7.out (fun _ _ e => e)).trans KW.out (fun b _ e => ?_)).trans ((Kept.refl (fun b => nb ≤ b) W3).twin T5.out |>.trans k8 (fun b _ e => (HG.out b (.inr e)).1)) (fun _ _ e => e)
            rcases e with e | e | e | e | e
            · omega
            · omega
            · omega
            · omega
            · exact (HG.out b (.inr e)).1
          refine leaves_marks [dk] _ (by simp) (fun d hd => ?_) (fun W' kd => ?_)
          · rw [List.mem_singleton.1 hd]
            refine (Below.heap_setCell _ _ _ _ (by simp; omega)).trans ((k8.block dk (by rw [T5.out.heap]; exact hdlt) (fun e => ?_)).trans ?_)
            · have := HBL.out dk (.inr e); omega
            · rw [T5.out.heap]; exact hdk
          · have hb := (hbr8.set (.bool true)).kept kd (by simp; omega)
            refine ⟨_, results_box rfl Try.underlying4 rfl rfl hb, rfl, ?_⟩
            refine ((kx8.setCell ⟨rb, 0, none⟩ (.bool true) (fun _ => by show nb ≤ rb; omega)).trans kd (fun b _ e => by have := List.mem_singleton.1 e; omega)).mono (fun b hb e => ?_)
            have := HNB.out.1
            omega
end Go.Proofs.Yteiilokhkpaoeaa
