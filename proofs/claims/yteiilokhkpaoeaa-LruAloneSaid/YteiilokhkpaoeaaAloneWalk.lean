/- LruAlone, walked: for any keys, any looks, it answers true. -/
import Derived.Test.YteiilokhkpaoeaaSame9
import Derived.Test.YteiilokhkpaoeaaBoth9
import Derived.Test.YteiilokhkpaoeaaShown9
import Derived.Test.YteiilokhkpaoeaaTexts
import Derived.Test.YteiilokhkpaoeaaMarks
namespace Go.Proofs.Yteiilokhkpaoeaa
set_option linter.unusedVariables false
set_option linter.unusedSimpArgs false
open Go.RowKit Go.MapKept

set_option maxRecDepth 100000 in
set_option maxHeartbeats 2000000 in
theorem alone_any (a : Option Addr) (n c : Nat) (ss : Nat → ByteArray) (a' : Option Addr) (n' c' : Nat) (ds : Nat → ByteArray) (w : World) (hs : Texts w a n ss) (hn : n ≤ 9223372036854775807) (hs' : Texts w a' n' ds) (hn' : n' ≤ 9223372036854775807) :
    Calls Try.prog 7 #[.slice a n c, .slice a' n' c'] w fun e w' => e = .returned (.bool true) ∧ Kept (fun _ => False) w w' := by
  have HS := Lib.hid hs
  have HD := Lib.hid hs'
  clear hs hs'
  refine callsIn_WR (ro := none) (n := 0).1 (callsIn_of_wp_marks Try.func7 rfl trivial ?_ rfl)
  simp only [Try.ntmps7, List.size_toArray, List.length_cons, List.length_nil, Nat.reduceAdd, Nat.reduceSub, Array.replicate_succ, Array.replicate_zero, List.push_toArray, List.append_toArray, List.nil_append, List.cons_append]
  gi_wp2_with fail
  obtain ⟨W0, hW0⟩ : ∃ W0, W0 = w.alloc (.cells #[.slice a' n' c'] 22) := ⟨_, rfl⟩
  have kW0 : Kept (fun _ => False) w W0 := by rw [hW0]; exact (Kept.refl _ w).alloc _
  have bl0 : Box W0 w.heap.size (.slice a' n' c') := by rw [hW0]; exact Box.new w _ 22
  have zW0 : W0.heap.size = w.heap.size + 1 := by rw [hW0]; simp
  obtain ⟨lb, hlb⟩ : ∃ lb, w.heap.size = lb := ⟨_, rfl⟩
  rw [hlb] at bl0 zW0
  rw [← hW0, hlb]
  clear hW0
  have HLB := Lib.hid hlb
  clear hlb
  refine callsIn_WR.2 ((shown9 W0).mono ?_)
  rintro e w0 ⟨rfl, k0⟩
  gi_wp2_with fail
  refine callsIn_WR.2 ((SI.new_own _ w0).mono ?_)
  rintro e w1 ⟨bl, bm, rfl, hL, k1, gl, gm⟩
  rw [show max (50 : Int) 1 = 50 by omega] at hL
  gi_wp2_with fail
  refine callsIn_WR.2 ((ref9_new 50 w1).mono ?_)
  rintro e w2 ⟨rfl, hR, kR⟩
  rw [show max (50 : Int) 1 = 50 by omega] at hR
  obtain ⟨br, hbr⟩ : ∃ br, w1.heap.size = br := ⟨_, rfl⟩
  rw [hbr] at hR ⊢
  have hdis : ∀ b, Rfp br (.slice none 0 0) b → ¬ Lfp bl bm ([] : List (Ent ByteArray Int)) b := by
    rintro b (rfl | h) hl
    · have := hL.lt b hl; omega
    · cases h
  have hB2 : Both w2 bl bm br 50 50 (.slice none 0 0) [] := ⟨hL.kept kR (fun _ _ e => e), hR, hdis, by simp⟩
  have hk24 : W0.heap.size ≤ w0.heap.size ∧ w0.heap.size ≤ w1.heap.size ∧ w1.heap.size ≤ w2.heap.size := ⟨k0.size, k1.size, kR.size⟩
  have K2 := Lib.hid (show Kept (fun _ => False) w w2 from (((kW0.trans k0 (fun _ _ e => e)).trans k1 (fun b hb e => by have := HLB.out; omega)).trans kR (fun _ _ e => e)))
  have bl2 := ((bl0.kept k0 (fun e => e)).kept k1 (by omega)).kept kR (fun e => e)
  have hfp2 : ∀ b, Bfp bl bm br (.slice none 0 0) ([] : List (Ent ByteArray Int)) b → lb < b := by
    rintro b ((h | h | ⟨x, hx, _⟩) | (h | h))
    · omega
    · omega
    · cases hx
    · omega
    · cases h
  have hlw : lb < w2.heap.size := bl2.lt
  clear k0 k1 kR kW0 bl0 zW0 hL hR hdis hbr hk24 gl gm
  have BL := Lib.hid bl2
  clear bl2
  gi_wp2_with fail
  gi_loopw [8] (fun i wr => ∃ (k : Nat) (xs : List (Ent ByteArray Int)) (sv : Value), k ≤ n ∧ k ≤ 40 ∧ i = .int .i64 k ∧ Both wr bl bm br 50 50 sv xs ∧ (∀ b, Bfp bl bm br sv xs b → lb < b) ∧ Kept (fun b => lb < b) w2 wr) (fun i _ => n - (intOf i).toNat)
  case atStart => exact ⟨0, [], _, Nat.zero_le _, by omega, rfl, hB2, hfp2, .refl _ _⟩
  case round =>
    obtain ⟨k, xs, sv, hk, hk40, rfl, hx, hge, hkr⟩ := hrel
    clear hB2 hfp2
    have HG := Lib.hid hge
    clear hge
    by_cases hlt : k < n ∧ k < 40
    · obtain ⟨hlt, h40⟩ := hlt
      obtain ⟨b, o, rfl, hb, hc⟩ := HS.out k hlt
      have hb' : b < w2.heap.size ∧ b < lb := by have := K2.out.size; have := HLB.out; omega
      have hcell : wr.cell? ⟨b, o + k, none⟩ = some (.string (ss k)) := (hkr.cell (p := ⟨b, o + k, none⟩) hb'.1 (by simp; omega)).trans ((K2.out.cell (p := ⟨b, o + k, none⟩) hb (fun e => e)).trans hc)
      generalize ss k = key at hcell
      clear hc
      gi_wp2_with fail
      refine callsIn_WR.2 ((SI.put_any hx.l (by omega)).mono ?_)
      rintro e w5 ⟨rfl, h5, k5, z5⟩
      have hR5 := hx.ref1 k5
      have hcell5 : w5.cell? ⟨b, o + k, none⟩ = some (.string key) := (k5.cell (p := ⟨b, o + k, none⟩) (Nat.lt_of_lt_of_le hb'.1 hkr.size) (fun e => by have := HG.out b (.inl e); omega)).trans hcell
      obtain ⟨hp1, hp2, hp3⟩ := prs_put (most := 50) (nb := wr.heap.size) (k := key) (v := (k : Int)) hx.l.keys hx.len (by omega)
      have hpl : ((prs xs).length : Int) ≤ 50 := by rw [prs_len]; exact hx.len
      have HX := Lib.hid hx
      have H5 := Lib.hid h5
      have K5 := Lib.hid k5
      have HKR := Lib.hid hkr
      have HP1 := Lib.hid hp1
      clear hx h5 k5 hkr hcell hp1 hp2
      gi_wp2_with fail
      refine callsIn_WR.2 ((ref9_put_any hR5 (by omega) HX.out.keys).mono ?_)
      rintro e w6 ⟨rfl, sv6, hR6, k6, f6⟩
      rw [HP1.out] at hR6
      obtain ⟨hB6, kB6, fB6⟩ := HX.out.step H5.out K5.out (fun b hb => (fp_put hb).imp id (fun e => by omega)) hR6 k6 f6 hp3
      have H6 := Lib.hid (show Both w6 bl bm br 50 50 sv6 (putE 50 wr.heap.size key (k : Int) xs) ∧ (∀ b, Bfp bl bm br sv6 (putE 50 wr.heap.size key (k : Int) xs) b → lb < b) ∧ Kept (fun b => lb < b) w2 w6 from
        ⟨hB6, fun b hb => (fB6 b hb).elim (HG.out b) (fun h => by have := HKR.out.size; omega), HKR.out.trans kB6 (fun b _ e => HG.out b e)⟩)
      clear hR6 k6 f6 hB6 kB6 fB6 hR5 hp3 hcell5
      gi_wp2_with fail
      go_roundw
      case rel => exact ⟨k + 1, _, sv6, by omega, by omega, by go_num, H6.out.1, H6.out.2.1, H6.out.2.2⟩
      case measure => simp [intOf]; omega
    · have hsp : (k < n ∧ k = 40) ∨ ¬ k < n := by omega
      have bw := BL.out.kept hkr (by omega)
      have HX := Lib.hid hx
      have KW := Lib.hid (show Kept (fun b => lb < b) w wr from (K2.out.mono (fun _ _ e => e.elim)).trans hkr (fun b hb e => e))
      have hlx : lb < wr.heap.size := bw.lt
      have BW := Lib.hid bw
      have HGE := Lib.hid (show lb < wr.heap.size ∧ ∀ b, Bfp bl bm br sv xs b → b < wr.heap.size from ⟨hlx, hx.lt⟩)
      clear hkr hx hlt bw
      rcases hsp with ⟨hlt, rfl⟩ | hlt
      all_goals
        gi_wp2_with fail
        obtain ⟨ib, hib⟩ : ∃ ib, wr.heap.size = ib := ⟨_, rfl⟩
        obtain ⟨w5, hw5⟩ : ∃ w5, w5 = wr.alloc (.cells #[.int .i64 0] 3) := ⟨_, rfl⟩
        have k5 : Kept (fun _ => False) wr w5 := by rw [hw5]; exact Kept.one_alloc wr _
        have bi5 : Box w5 ib (.int .i64 (0 : Nat)) := by rw [hw5, ← hib]; exact Box.new wr _ 3
        have bl5 := BW.out.kept k5 (fun e => e)
        have hB5 := HX.out.kept k5 (fun _ _ e => e)
        have hf5 : ∀ b, Bfp bl bm br sv xs b → lb < b ∧ b ≠ ib := fun b hb => ⟨HG.out b hb, by have := HGE.out.2 b hb; omega⟩
        have hlib : lb < ib := by omega
        have kk5 : Kept (fun b => lb < b) w w5 := KW.out.trans k5 (fun _ _ e => e.elim)
        have hxl : (xs.length : Int) ≤ 50 := HX.out.len
        rw [← hw5, hib]
        clear hw5 hib k5
        refine wpIn_loop_marks [9, 10, 40, 41, 42, 43, 44, 45, 46, 47, 48, 49, 50, 51, 52, 53, 54, 55, 56, 57, 58, 59, 60, 61, 62, 63, 64, 65, 66, 67, 68, 69, 70, 71, 72, 73, 74, 75] 41 (fun dl f W => ∃ ib, dl.length ≤ n' ∧ dl.length ≤ 40 ∧ f 9 = .pointer (some ⟨ib, 0, none⟩) ∧ Box W ib (.int .i64 (dl.length : Nat)) ∧ Box W lb (.slice a' n' c') ∧ Both W bl bm br 50 50 sv xs ∧ (∀ b, Bfp bl bm br sv xs b → lb < b ∧ b ≠ ib) ∧ lb < ib ∧ Kept (fun b => lb < b) w W ∧ dl.Nodup ∧ (∀ d ∈ dl, lb < d ∧ d ≠ ib ∧ ¬ Bfp bl bm br sv xs d ∧ W.heap[d]? = some (.deferred (some [])))) ⟨ib, by simp, by simp, rfl, bi5, bl5, hB5, hf5, hlib, kk5, by simp, by simp⟩ ?_
        rintro dl f W ⟨ib2, hdn, hd40, hf9, bi, bk, hB, hfp, hli, hkw, hnd, hds⟩ -
        clear bi5 bl5 hB5 hf5 hlib kk5
        simp only [upd, List.foldl_cons, List.foldl_nil, List.setIfInBounds_toArray, List.set_cons_succ, List.set_cons_zero]
        rw [hf9]
        clear hf9
        obtain ⟨k2, hk2⟩ : ∃ k2, k2 = dl.length := ⟨_, rfl⟩
        rw [← hk2] at bi hdn hd40
        have HK2 := Lib.hid hk2
        clear hk2
        have hci := bi.cell
        have hfi := bi.frozen
        have hcl := bk.cell
        by_cases hlt2 : k2 < n' ∧ k2 < 40
        · obtain ⟨hlt2, h402⟩ := hlt2
          obtain ⟨b, o, rfl, hb, hc⟩ := HD.out k2 hlt2
          have hbl : b < lb := by have := HLB.out; omega
          have hcell : W.cell? ⟨b, o + k2, none⟩ = some (.string (ds k2)) := (hkw.cell (p := ⟨b, o + k2, none⟩) hb (by simp; omega)).trans hc
          generalize ds k2 = look at hcell
          clear hc
          gi_wp2_with fail
          refine callsIn_WR.2 ((SI.peek_any hB.l).mono ?_)
          rintro e w6 ⟨rfl, rfl⟩
          gi_wp2_with fail
          refine callsIn_WR.2 ((SI.oldest_any hB.l).mono ?_)
          rintro e w6 ⟨rfl, t6⟩
          gi_wp2_with fail
          refine callsIn_WR.2 ((SI.all_own _ w6).mono ?_)
          rintro e w7 ⟨bx0, rfl, _, k7, _⟩
          have hnf := run_eq_nilFunc (P := Try.prog) w7 (.func 55) #[] #[.pointer (some ⟨bx0, 0, none⟩)] Try.underlying55
          gi_wp2_with fail
          refine callsIn_WR.2 ((SI.all_own _ w7).mono ?_)
          rintro e w8 ⟨bx, rfl, hbx, k8, gx⟩
          gi_wp2_with fail
          have kW8 : Kept (fun _ => False) W w8 := ((Kept.refl (fun _ => False) W).twin t6).trans (k7.trans k8 (fun _ _ e => e)) (fun _ _ e => e)
          have bi8 := bi.kept kW8 (fun e => e)
          have bk8 := bk.kept kW8 (fun e => e)
          have hB8 := hB.kept kW8 (fun _ _ e => e)
          have hcell8 : w8.cell? ⟨b, o + k2, none⟩ = some (.string look) := (kW8.cell (p := ⟨b, o + k2, none⟩) (Nat.lt_of_lt_of_le hb hkw.size) (fun e => e)).trans hcell
          have hkw8 : Kept (fun b => lb < b) w w8 := hkw.trans kW8 (fun _ _ e => e.elim)
          have hds8 : ∀ d ∈ dl, lb < d ∧ d ≠ ib2 ∧ ¬ Bfp bl bm br sv xs d ∧ w8.heap[d]? = some (.deferred (some [])) := fun d hd => by
            obtain ⟨h1, h2, h3, h4⟩ := hds d hd
            exact ⟨h1, h2, h3, (kW8.block d (Array.getElem?_eq_some_iff.1 h4).1 (fun e => e)).trans h4⟩
          have hzW : w7.heap.size ≤ bx ∧ W.heap.size ≤ w7.heap.size := ⟨gx, by have h1 := k7.size; rw [t6.heap] at h1; exact h1⟩
          have hRd : SI.Rd bx bl bm 50 xs w8 := ⟨hbx.cell, hbx.lt, hB8.l⟩
          have hibW : ib2 < W.heap.size := bi.lt
          have hlbW : lb < W.heap.size := bk.lt
          have hwlb : w.heap.size = lb := HLB.out
          have HWL := Lib.hid hwlb
          have HDS := Lib.hid hds8
          have HB8 := Lib.hid hB8
          have KW8 := Lib.hid hkw8
          have HRd := Lib.hid hRd
          have HFP := Lib.hid hfp
          have HBLT := Lib.hid (fun b (hb : Bfp bl bm br sv xs b) => hB.lt b hb)
          have hkbx : bx < w8.heap.size := hbx.lt
          have hbx2 : ib2 < bx ∧ lb < bx := by omega
          clear hnf k7 k8 t6 hbx gx bi bk hB hcell hkw hds kW8 hci hfi hcl hzW hds8 hwlb hfp hRd hB8
          have hbw : b < w8.heap.size := Nat.lt_of_lt_of_le hb KW8.out.size
          refine wpW_range (SI.all1 bx bl bm 50 xs) rfl SI.enters (fun _ => rfl) (fun _ U W' => Box W' ib2 (.int .i64 (k2 : Nat)) ∧ Box W' lb (.slice (some ⟨b, o, none⟩) n' c') ∧ W'.cell? ⟨b, o + k2, none⟩ = some (.string look) ∧ b < W'.heap.size ∧ U ib2 ∧ U lb ∧ U b ∧ ∀ x, x < lb → U x ∧ W'.heap[x]? = w8.heap[x]? ∧ x < W'.heap.size)
            (fun c U W' => c = .exit 4 ∧ Box W' ib2 (.int .i64 (k2 : Nat)) ∧ Box W' lb (.slice (some ⟨b, o, none⟩) n' c') ∧ U ib2 ∧ U lb ∧ ∀ x, x < lb → U x ∧ W'.heap[x]? = w8.heap[x]? ∧ x < W'.heap.size)
            (fun x => x ≤ lb ∨ x = ib2)
            ?_ ?_ ?_ ?_ ?_ HRd.out ?_ ⟨bi8, bk8, hcell8, hbw, .inr rfl, .inl (Nat.le_refl _), .inl (Nat.le_of_lt hbl), fun x hx => ⟨.inl (Nat.le_of_lt hx), rfl, by omega⟩⟩ ?_ ?_ ?_
          · rintro pre U W1 W2 ⟨h1, h2, h3, h4, h5, h6, h7, h8⟩ kq
            refine ⟨h1.kept kq (fun e => e h5), h2.kept kq (fun e => e h6), (kq.cell (p := ⟨b, o + k2, none⟩) h4 (fun e => e h7)).trans h3, Nat.lt_of_lt_of_le h4 kq.size, h5, h6, h7, fun x hx => ?_⟩
            obtain ⟨g1, g2, g3⟩ := h8 x hx
            exact ⟨g1, (kq.block x g3 (fun e => e g1)).trans g2, Nat.lt_of_lt_of_le g3 kq.size⟩
          · rintro c1 U W1 W2 ⟨h0, h1, h2, h5, h6, h8⟩ kq
            refine ⟨h0, h1.kept kq (fun e => e h5), h2.kept kq (fun e => e h6), h5, h6, fun x hx => ?_⟩
            obtain ⟨g1, g2, g3⟩ := h8 x hx
            exact ⟨g1, (kq.block x g3 (fun e => e g1)).trans g2, Nat.lt_of_lt_of_le g3 kq.size⟩
          · rintro x hu (rfl | hd)
            · omega
            · have := HFP.out x (.inl hd)
              omega
          · rintro x (rfl | hd)
            · exact hkbx
            · exact HB8.out.l.lt x hd
          · rintro x (h | h) <;> omega
          · exact fun W W' h kq => h.kept kq (fun e => e (.inl rfl)) (fun b hb e => e (.inr hb))
          · intro l pre y rest U' W1 hitems hi hlt' hD' hRd' hl hlD hlW hUU
            have HLT := Lib.hid hlt'
            clear hUU hlt' hD' hRd' hlD hitems
            simp only [List.zip_toArray, List.zip_cons_cons, List.zip_nil_left, List.foldl_toArray', List.foldl_cons, List.foldl_nil, List.setIfInBounds_toArray, List.set_cons_succ, List.set_cons_zero]
            gi_wp2_with (rw [Oper.semAt_eq _ _ _ (fun c h => by cases h)]; go_simp; try go_bits)
            refine ⟨trivial, ?_⟩
            intro W2 kl zl
            have ZL := Lib.hid zl
            clear zl
            obtain ⟨h1, h2, h3, h4, h5, h6, h7, h8⟩ := hi
            have hkk : Kept (fun x => ¬ U' x) W1 W2 := kl.mono fun x _ e h => by subst e; exact hl h
            have g1 := h1.kept hkk (fun e => e h5)
            have g2 := h2.kept hkk (fun e => e h6)
            have g3 : W2.cell? ⟨b, o + k2, none⟩ = some (.string look) := (hkk.cell (p := ⟨b, o + k2, none⟩) h4 (fun e => e h7)).trans h3
            have g4 : b < W2.heap.size := Nat.lt_of_lt_of_le h4 hkk.size
            have g8 : ∀ x, x < lb → U' x ∧ W2.heap[x]? = w8.heap[x]? ∧ x < W2.heap.size := fun x hx => by
              obtain ⟨q1, q2, q3⟩ := h8 x hx
              exact ⟨q1, (hkk.block x q3 (fun e => e q1)).trans q2, Nat.lt_of_lt_of_le q3 hkk.size⟩
            have G8 := Lib.hid g8
            have hci := g1.cell
            have hcl := g2.cell
            have hend := round_plain kl hl HLT.out hlW (Kept.refl U' W2)
            have HEND := Lib.hid hend
            have G1 := Lib.hid g1
            have G2 := Lib.hid g2
            clear h1 h2 h3 h4 hkk g8 h8 hend g1 g2
            by_cases hyl : y.k = look
            · have hby := bytes_self look
              subst hyl
              gi_wp2_with (rw [Oper.semAt_eq _ _ _ (fun c h => by cases h)]; go_simp; try go_bits)
              exact ⟨rfl, U', HEND.out.2.1, hl, HEND.out.2.2.2, rfl, G1.out, G2.out, h5, h6, G8.out⟩
            · have hby := bytes_ne hyl
              gi_wp2_with (rw [Oper.semAt_eq _ _ _ (fun c h => by cases h)]; go_simp; try go_bits)
              exact ⟨rfl, U', HEND.out.2.1, hl, HEND.out.2.2.2, G1.out, G2.out, g3, g4, h5, h6, h7, G8.out⟩
          case' refine_8 => intro dk U3 W3 hi kw hRd' hdk hdkn hdkU hUU hUn hUlt; obtain ⟨b1, b2, -, -, -, -, -, b8⟩ := hi
          case' refine_9 => rintro c1 dk U3 W3 ⟨rfl, b1, b2, -, -, b8⟩ kw hRd' hdk hdkn hdkU hUU hUn hUlt
          all_goals
            have hB9 : Both W3 bl bm br 50 50 sv xs := HB8.out.kept kw (fun x hx e => by have := HFP.out x hx; omega)
            have KW9 := Lib.hid kw
            have B1 := Lib.hid b1
            have B2 := Lib.hid b2
            have B8 := Lib.hid b8
            have HDK := Lib.hid hdk
            clear bi8 bk8 hcell8 kw hRd' hdk hdkU hUU hUn hUlt b1 b2 b8
            gi_wp2_with fail
            refine callsIn_WR.2 ((same_any hB9.l hB9.r hB9.dis (by omega)).mono ?_)
            rintro e w9 ⟨rfl, k9, r9⟩
            have hB10 : Both w9 bl bm br 50 50 sv xs := ⟨hB9.l.kept k9 (fun b hb hr => hB9.dis b hr hb), r9, hB9.dis, hB9.len⟩
            have c1 := B1.out.kept k9 (fun e => (HFP.out ib2 (.inr e)).2 rfl)
            have c2 := B2.out.kept k9 (fun e => by have := HFP.out lb (.inr e); omega)
            have hci := c1.cell
            have C2 := Lib.hid c2
            have HB10 := Lib.hid hB10
            have K9 := Lib.hid k9
            have hz9 : W3.heap.size ≤ w9.heap.size := k9.size
            clear c1 c2 hB10 k9 r9 hB9
            gi_wp2_with fail
            obtain ⟨W10, hW10⟩ : ∃ W10, W10 = w9.alloc (.cells #[.int .i64 ((k2 : Int) + 1)] 3) := ⟨_, rfl⟩
            have k10 : Kept (fun _ => False) w9 W10 := by rw [hW10]; exact Kept.one_alloc w9 _
            have bi10 : Box W10 w9.heap.size (.int .i64 ((k2 : Int) + 1)) := by rw [hW10]; exact Box.new w9 _ 3
            rw [← hW10]
            have hs8 : w8.heap.size ≤ W3.heap.size := KW9.out.size
            have hdl3 : dk < W3.heap.size := (Array.getElem?_eq_some_iff.1 HDK.out).1
            have hbl8 : ∀ x, Bfp bl bm br sv xs x → x < w8.heap.size := HB8.out.lt
            have kall : Kept (fun b => lb < b) w W3 := ⟨KW9.out.os.trans KW8.out.os, KW9.out.tape.trans KW8.out.tape, KW9.out.output.trans KW8.out.output, Nat.le_trans KW8.out.size KW9.out.size, fun x hx hn => ((B8.out x (by have := HWL.out; omega)).2.1).trans (KW8.out.block x hx hn)⟩
            have kall10 : Kept (fun b => lb < b) w W10 := (kall.trans K9.out (fun x _ e => (HFP.out x (.inr e)).1)).trans k10 (fun _ _ e => e.elim)
            have hd8 : ∀ d ∈ dl, d < w8.heap.size := fun d hd => (Array.getElem?_eq_some_iff.1 (HDS.out d hd).2.2.2).1
            have hlen : k2 = dl.length := HK2.out
            refine ⟨dk :: dl, ⟨w9.heap.size, by simp <;> omega, by simp <;> omega, rfl, ?_, C2.out.kept k10 (fun e => e), HB10.out.kept k10 (fun _ _ e => e), fun x hx => ⟨(HFP.out x hx).1, by have := hbl8 x hx; omega⟩, by omega, kall10, ?_, ?_⟩, ?_, by simp, by simp <;> omega⟩
            · rw [show (((dk :: dl).length : Nat) : Int) = (k2 : Int) + 1 by simp <;> omega]
              exact bi10
            · exact List.nodup_cons.2 ⟨fun h => by have := hd8 dk h; omega, hnd⟩
            · intro d hd
              rcases List.mem_cons.1 hd with rfl | hd
              · exact ⟨by omega, by omega, fun e => by have := hbl8 _ e; omega, (k10.block d (by omega) (fun e => e)).trans ((K9.out.block d hdl3 (fun e => by have := hbl8 _ (.inr e); omega)).trans HDK.out)⟩
              · obtain ⟨q1, q2, q3, q4⟩ := HDS.out d hd
                have q5 := hd8 d hd
                exact ⟨q1, by omega, q3, (k10.block d (by omega) (fun e => e)).trans ((K9.out.block d (by omega) (fun e => q3 (.inr e))).trans ((KW9.out.block d q5 (by omega)).trans q4))⟩
            · kernel_rfl
        · have hsp : (k2 < n' ∧ k2 = 40) ∨ ¬ k2 < n' := by omega
          have HDS := Lib.hid hds
          have HKW := Lib.hid hkw
          clear hds hkw hlt2 hB hfp bi bk
          rcases hsp with ⟨hlt2, rfl⟩ | hlt2
          all_goals
            gi_wp2_with fail
            refine leaves_marks dl _ hnd (fun d hd => (HDS.out d hd).2.2.2) (fun W' kd => ⟨_, results_tmp rfl _ _ _, rfl, ?_⟩)
            exact (HKW.out.trans kd (fun b _ e => (HDS.out b e).1)).mono (fun b hb e => by have := HLB.out; omega)
end Go.Proofs.Yteiilokhkpaoeaa
