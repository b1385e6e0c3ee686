/- ScanChanges, walked. -/
import Derived.Test.YtjkgimloafpipaaGreatShown11
import Derived.Test.YtjkgimloafpipaaGreatMade11
import Derived.Test.YtjkgimloafpipaaGreatScanD
import Derived.Test.YtjkgimloafpipaaGreatScanC
import Derived.Test.YtjkgimloafpipaaGreatCount
import Derived.Test.YtjkgimloafpipaaGreatChgA
import Derived.Test.YtjkgimloafpipaaGreatMapBool
import Derived.Test.YtjkgimloafpipaaGreatSesA
import Derived.Test.YtjkgimloafpipaaGreatHeld
import Derived.Sort.CutIn
namespace Go.Proofs.YtjkgimloafpipaaGreat
set_option linter.unusedVariables false
set_option linter.unusedSimpArgs false
open Go.RowKit Go.MapKept Go.Deep

set_option maxRecDepth 100000 in
theorem conv_absDD {K : World → Prop} {w : World} {s : ByteArray} {c : Nat} {e : TypeId} {fr : Nat × Nat} (h : ∀ w', Kept (fun _ => False) w w' → BytesAt w' (some ⟨w.heap.size, 0, none⟩) s.size s → K w') : K (w.alloc (.cells (bytesRow s c) e fr)).drew.drew :=
  h _ (Kept.one_alloc w _).drew.drew (bytes_row ⟨rfl, rfl, rfl, rfl⟩ rfl)
set_option maxRecDepth 100000 in
theorem zbool (w : World) : (zeroValue 4).run Tryz.prog w = .ok (.bool false) w := by kernel_rfl
set_option maxRecDepth 100000 in
theorem fd3 (s : ByteArray) (a b c d : Int) (w : World) : (Instr.field 25 (.agg #[.string s, .int .i64 a, .int .i64 b, .int .i64 c, .int .i64 d]) 3).run Tryz.prog w = .ok (.int .i64 c) w := by kernel_rfl
set_option maxRecDepth 100000 in
set_option maxHeartbeats 40000000 in
theorem scanChanges_any (is : Bool) (value : Int) (a : Option Addr) (n c : Nat) (ss : Nat → Pr) (x : Int) (a' : Option Addr) (n' c' : Nat) (ss' : Nat → Pr) (W : World) (hs : Puts W a n ss) (hn : n ≤ 9223372036854775807) (hs' : Puts W a' n' ss') (hn' : n' ≤ 9223372036854775807) :
    Calls Tryz.prog 11 #[.bool is, .int .i64 value, .slice a n c, .int .i64 x, .slice a' n' c'] W fun e w' => e = .returned (.bool true) ∧ Kept (fun _ => False) W w' := by
  have HS := Lib.hid (And.intro hs hs')
  clear hs hs'
  obtain ⟨nn, hnn, hnn'⟩ := mask_nat x 2 (by omega) 3 (by decide)
  have hnn4 : nn ≤ 3 := by omega
  obtain ⟨N, hN⟩ : ∃ N, nn + 1 = N := ⟨_, rfl⟩
  have hNw : wrap64 (1 + bits .and .i64 x 3) = (N : Int) := by rw [hnn, IntWalk.wrap64_in _ (by omega)]; omega
  have HN := Lib.hid (show 1 ≤ N ∧ N ≤ 4 from by omega)
  clear hnn hnn' hnn4 hN
  refine callsIn_WR (ro := none) (n := 0).1 (callsIn_of_wp_marks Tryz.func11 rfl trivial ?_ rfl)
  simp only [Tryz.ntmps11, List.size_toArray, List.length_cons, List.length_nil, Nat.reduceAdd, Nat.reduceSub, Array.replicate_succ, Array.replicate_zero, List.push_toArray, List.append_toArray, List.nil_append, List.cons_append]
  gi_wp2_with fail
  obtain ⟨W1, hW1⟩ : ∃ W1, W.alloc (.cells #[.bool false] 4) = W1 := ⟨_, rfl⟩
  obtain ⟨rb, hrb⟩ : ∃ rb, W.heap.size = rb := ⟨_, rfl⟩
  have RB := Lib.hid (show Box W1 rb (.bool false) ∧ Kept (fun _ => False) W W1 ∧ W.heap.size ≤ rb from ⟨by rw [← hW1, ← hrb]; exact Box.new _ _ _, by rw [← hW1]; exact Kept.one_alloc _ _, by omega⟩)
  rw [hW1, hrb]
  clear hW1 hrb
  refine callsIn_WR.2 ((shown_any W1).mono ?_)
  rintro e w1 ⟨rfl, k1⟩
  have K1 := Lib.hid k1
  clear k1
  gi_upto_if 29 with fail
  gi_cut [12] from 30 (fun s12 wx => ∃ kd : Int, (kd = 1 ∨ kd = 2) ∧ s12 = .int .i64 kd ∧ wx = w1)
  case first =>
    cases is
    · gi_wp2_with fail
      gi_meet
      exact ⟨1, .inl rfl, rfl, rfl⟩
    · gi_wp2_with fail
      gi_meet
      exact ⟨2, .inr rfl, rfl, rfl⟩
  case rest =>
    obtain ⟨kind, hkd, rfl, rfl⟩ := hcut
    have MD := Lib.hid (made11_any kind 1 value 11 a n c ss wc (fun i hi => by
      obtain ⟨b, o, e, hb, hp⟩ := HS.out.1 i hi
      have kk := RB.out.2.1.trans K1.out (fun _ _ e => e)
      exact ⟨b, o, e, Nat.lt_of_lt_of_le hb kk.size, hp.kept hb kk (fun e => e)⟩) hn)
    gi_wp2_with fail
    refine callsIn_WR.2 (MD.out.mono ?_)
    rintro e w2 ⟨bt, br, P, rfl, hd⟩
    have hmr := (small_right kind 1 value 11)
    obtain ⟨m, hm⟩ : ∃ m, smallM kind 1 value 11 = m := ⟨_, rfl⟩
    rw [hm] at hd hmr
    obtain ⟨Ft, Fr, hses, -, -, hfl⟩ := hd.ex
    have SE := Lib.hid (And.intro hses (show ∀ b, Ft b → wc.heap.size ≤ b ∧ b < w2.heap.size from fun b hb => ⟨(hfl b (.inl hb)).1, (hfl b (.inl hb)).2.1⟩))
    have KW2 := Lib.hid (show Kept (fun _ => False) W w2 ∧ Box w2 rb (.bool false) ∧ rb < wc.heap.size from ⟨(RB.out.2.1.trans K1.out (fun _ _ e => e)).trans hd.back (fun _ _ e => e), (RB.out.1.kept K1.out (fun e => e)).kept hd.back (fun e => e), (RB.out.1.kept K1.out (fun e => e)).lt⟩)
    have HM := Lib.hid (And.intro hmr (And.intro hm hkd))
    clear MD hd hses hfl hmr hm hkd
    gi_wp2_with fail
    try rw [hNw]
    obtain ⟨mb, hmb⟩ : ∃ mb, w2.heap.size = mb := ⟨_, rfl⟩
    obtain ⟨w3, hw3⟩ : ∃ w3, w2.alloc (.map #[] 0) = w3 := ⟨_, rfl⟩
    have hmk : (Instr.makeMap 75 none).run Tryz.prog w2 = .ok (.map (some mb)) w3 := by rw [← hmb, ← hw3]; rfl
    have MB := Lib.hid (show MapB w3 mb (fun _ => none) ∧ Kept (fun _ => False) w2 w3 ∧ w3.heap.size = mb + 1 from ⟨by rw [← hw3, ← hmb]; exact mapB_new w2, by rw [← hw3]; exact Kept.one_alloc _ _, by rw [← hw3, ← hmb]; simp⟩)
    have HMB := Lib.hid hmb
    clear hmb hw3
    gi_wp2_with (rw [hmk]; simp only [Result.andThen]; go_simp)
    obtain ⟨sb, hsb⟩ : ∃ sb, w3.heap.size = sb := ⟨_, rfl⟩
    obtain ⟨w4, hw4⟩ : ∃ w4, w3.alloc (.cells #[.map (some mb)] 75) = w4 := ⟨_, rfl⟩
    have k34 : Kept (fun _ => False) w3 w4 := by rw [← hw4]; exact Kept.one_alloc _ _
    have SB := Lib.hid (show Box w4 sb (.map (some mb)) ∧ MapB w4 mb (startG []) ∧ Kept (fun _ => False) w2 w4 ∧ mb < sb ∧ sb = mb + 1 from ⟨by rw [← hw4, ← hsb]; exact Box.new _ _ _, MB.out.1.kept k34 (fun e => e), MB.out.2.1.trans k34 (fun _ _ e => e), by have := MB.out.2.2; omega, by have := MB.out.2.2; omega⟩)
    rw [hw4, hsb]
    clear hsb hw4 hmk k34
    obtain ⟨iv, E, F, hT, hPE, hF⟩ := SE.out.1.keep SB.out.2.2.1
    have HT := Lib.hid (And.intro hT (And.intro hPE hF))
    refine callsIn_WR.2 ((keys_any hT).mono ?_)
    rintro e w6 ⟨kb, rfl, hky, k6, hkb⟩
    have hnf := run_eq_nilFunc (P := Tryz.prog) w6 (.func 46) #[] #[.pointer (some ⟨kb, 0, none⟩)] Tryz.underlying72
    have H6 := Lib.hid (And.intro hky (And.intro k6 hkb))
    clear hT hPE hF hky k6 hkb
    gi_wp2_with fail
    obtain ⟨hky, k6, hkb⟩ := H6.out
    have sb6 := SB.out.1.kept k6 (fun e => e)
    have mb6 := SB.out.2.1.kept k6 (fun e => e)
    have hFm : ∀ b, Tfp bt E F b → b < mb := fun b hb => by have := (SE.out.2 b (HT.out.2.2 b hb)).2; have := HMB.out; omega
    have hk46 := k6.size
    have hmb4 : mb < w4.heap.size := (SB.out.2.1).lt
    have hitr := keys1_any kb bt m iv E F
    refine wpW_rangeG hitr rfl keys_enters (fun _ => by rfl) (fun (pre : List ByteArray) U W' => MapB W' mb (startG pre) ∧ U mb) (fun _ _ _ => False) (fun b => b = mb)
      (fun pre U W W' h k => ⟨h.1.kept k (fun e => e h.2), h.2⟩) (fun _ _ _ _ h _ => h) ?_ ?_ ?_ hky (fun W W' h k => h.kept k (fun b hb e => e hb)) ⟨mb6, rfl⟩ ?_ ?_ (fun _ _ _ _ h => h.elim)
    · rintro b rfl (h | h)
      · omega
      · have := hFm b h
        omega
    · exact hky.dlt
    · rintro b rfl
      exact mb6.lt
    · intro l pre k rest U' W7 hitems hi hkw hlt' hD' hRd' hl hlD hlW hlw hUU
      have LK := Lib.hid (And.intro hlt' (And.intro hl (And.intro hlW (And.intro hlw (And.intro hkw hi)))))
      clear hi hlt' hD' hRd' hlD hkw hitems hnf hl hlw hUU hlW hky k6 hkb hitr sb6 mb6 hFm hk46 hmb4
      simp only [List.zip_toArray, List.zip_cons_cons, List.zip_nil_left, List.foldl_toArray', List.foldl_cons, List.foldl_nil, List.setIfInBounds_toArray, List.set_cons_succ, List.set_cons_zero]
      gi_wp2_with (rw [Oper.semAt_eq _ _ _ (fun c h => by cases h)]; go_simp; try go_bits)
      refine ⟨trivial, ?_⟩
      intro W8 kl zl
      clear zl
      obtain ⟨hlt', hl, hlW, hlw, hkw, hi⟩ := LK.out
      have hi8 : MapB W8 mb (startG pre) ∧ U' mb := ⟨hi.1.kept kl (fun e => hl (by have e : mb = l := e; rw [← e]; exact hi.2)), hi.2⟩
      have k48 : Kept (fun b => b = mb ∨ b = l) w4 W8 := ((H6.out.2.1.mono fun _ _ e => e.elim).trans hkw (fun _ _ e => .inl e)).trans kl (fun _ _ e => .inr e)
      have sb8 := SB.out.1.kept k48 (fun e => e.elim (fun e => by have := SB.out.2.2.2.2; omega) (fun e => by have := H6.out.2.1.size; have := SB.out.1.lt; omega))
      have hcs := sb8.cell
      obtain ⟨w9, hup, hmap9, kup, hz9⟩ := run_updateB (P := Tryz.prog) Tryz.underlying75 Tryz.underlying9 hi8.1 k true
      have B8 := Lib.hid (And.intro hi8.2 (And.intro hmap9 (And.intro kup kl)))
      clear hlt' hl hlW hlw hkw hi hi8 k48 sb8 hmap9 kup kl hz9
      gi_wp2_with (first | (rw [hup]; simp only [Result.andThen]; go_simp; done) | (rw [Oper.semAt_eq _ _ _ (fun c h => by cases h)]; go_simp; try go_bits))
      obtain ⟨hUm, hmap9, kup, kl⟩ := B8.out
      obtain ⟨hlt', hl, hlW, hlw, hkw, hi⟩ := LK.out
      obtain ⟨e1, e2, e3, e4⟩ := round_plain (U := U') kl hl hlt' hlW (kup.mono fun b _ e => by have e : b = mb := e; rw [e]; exact hUm)
      exact ⟨e1, _, e2, e3, e4, hmap9.congr (fun j => startG_snoc pre k j), hUm⟩
    · intro items dk U3 W9 hfull hi kW hR hmkd hdkl hdkU hUU hUn hUl
      obtain ⟨hbox, hky6⟩ : Box W9 sb (.map (some mb)) ∧ True := ⟨sb6.kept kW (fun e => by have := SB.out.2.2.2.2; omega), trivial⟩
      have k29 : Kept (fun b => b = mb) w2 W9 := ((SB.out.2.2.1.trans k6 (fun _ _ e => e)).mono fun _ _ e => e.elim).trans kW (fun _ _ e => e)
      have hz29 := k29.size
      have hmb2 : w2.heap.size ≤ mb := by have := HMB.out; omega
      have hW29 : Kept (fun _ => False) W W9 := KW2.out.1.trans k29 (fun b hb e => by have e : b = mb := e; have := KW2.out.1.size; omega)
      have hrb2 : rb < w2.heap.size := KW2.out.2.1.lt
      have hdk6 : w4.heap.size ≤ dk := Nat.le_trans k6.size hdkl
      have hsbl := SB.out.1.lt
      have hWc : W.heap.size ≤ wc.heap.size := (RB.out.2.1.trans K1.out (fun _ _ e => e)).size
      have CW := Lib.hid (show ChgW W rb sb mb (.slice none 0 0) [] (startG (keysP P)) [dk] W9 from by
        refine ⟨hW29, KW2.out.2.1.kept k29 (fun e => by have e : rb = mb := e; omega), hbox, ?_, World.ownsRow_nil W9 0 9 1, (fun b e => by cases e), RB.out.2.2, by have := SB.out.2.2.2.2; omega, ⟨by have := KW2.out.1.size; omega, by omega, by have := SB.out.2.2.2.2; omega⟩, (fun d hd => ?_), by simp⟩
        · rw [← HT.out.2.1, ← hfull]
          exact hi.1
        · rw [List.mem_singleton] at hd
          subst hd
          refine ⟨hmkd, by have := KW2.out.1.size; have := SB.out.2.2.1.size; omega, by have := SB.out.2.2.1.size; omega, by omega, by omega, ?_⟩
          intro e
          cases e)
      have CT := Lib.hid (show ChgT W m bt P (yB rb sb mb (.slice none 0 0) [dk]) W9 from by
        refine ⟨Ft, SE.out.1.kept k29 (fun b hb e => by have e : b = mb := e; have := (SE.out.2 b hb).2; omega), fun b hb => ⟨by have := (SE.out.2 b hb).1; omega, by have := (SE.out.2 b hb).2; omega, ?_⟩⟩
        have h1 := SE.out.2 b hb
        have h2 := KW2.out.2.2
        have h3 := SB.out.2.2.1.size
        have h4 := SB.out.2.2.2.2
        rintro (rfl | rfl | rfl | e | e)
        · omega
        · omega
        · omega
        · cases e
        · rw [List.mem_singleton] at e
          omega)
      have HPL := Lib.hid (show P.length ≤ 12 from by have := SE.out.1.len; have := HM.out.1.2.2.2; omega)
      clear hbox hky6 k29 hz29 hmb2 hW29 hrb2 hdk6 hsbl hWc hfull hi kW hR hmkd hdkl hdkU hUU hUn hUl hky k6 hkb hitr sb6 mb6 hFm hk46 hmb4 hnf
      gi_wp2_with fail
      refine wpIn_loop_marks0 [17, 18, 19, 20, 21, 22, 23, 24, 25, 48, 49, 50, 51, 52, 53, 54, 55, 56, 57, 58, 59, 60, 61, 62, 63, 64, 65, 66, 67, 68, 69, 70, 71, 72, 73, 74, 75, 76, 77, 78, 79, 80, 81, 82, 83, 84, 85, 86, 87, 88, 89, 90, 91, 92, 93, 94, 95, 96, 97, 98, 99, 100, 101, 102, 103, 104, 105, 106, 107, 108, 109, 110, 111, 112, 113, 114, 115, 116, 117, 118, 119, 120, 121, 122, 123, 124, 125, 126, 127, 128, 129, 130, 131, 132, 133, 134, 135, 136, 137, 138, 139, 140, 141] 31 [dk] (fun dl f w => ∃ (i : Nat) (P : List Pr) (T A : List ByteArray) (g : ByteArray → Option Bool) (mb : Nat) (ta : Option Addr) (tc : Nat), f 19 = .int .i64 (i : Int) ∧ f 18 = .string (lastK T) ∧ f 17 = .slice ta T.length tc ∧ ChgI i P T A g ∧ ChgW W rb sb mb (.slice ta T.length tc) T g dl w ∧ ChgT W m bt P (yB rb sb mb (.slice ta T.length tc) dl) w ∧ dl.length = i + 1) (by simp) ⟨0, P, [], P.map (·.1), startG (keysP P), mb, none, 0, rfl, rfl, rfl, chg_start (fun k hk => startG_has hk) HPL.out, CW.out, CT.out, rfl⟩ ?_
      rintro dl f wr ⟨i, P, T, A, g, mb, ta, tc, hf19, hf18, hf17, hI, hW, hT, hdl⟩ -
      simp only [upd, List.foldl_cons, List.foldl_nil, List.setIfInBounds_toArray, List.set_cons_succ, List.set_cons_zero]
      rw [hf17, hf18, hf19]
      clear hf17 hf18 hf19
      have hi24 := hI.few
      have hlt : (i : Int) < 30 := by omega
      have II := Lib.hid (And.intro hI hi24)
      have WW := Lib.hid (And.intro hW (And.intro hT hdl))
      clear hI hW hT hdl hi24 CW CT HPL SB HT H6 MB HMB SE
      gi_wp2_with fail
      rw [show ((i : Int) == 0) = decide (i = 0) by
        by_cases h : i = 0
        · subst h; rfl
        · rw [decide_eq_false h, beq_eq_false_iff_ne]; omega]
      obtain ⟨Fb, hses, hFb⟩ := WW.out.2.1
      have HND := Lib.hid hses.nodup
      refine callsIn_WR.2 ((ses_batch hses (lastK T) (decide (i = 0)) (N : Int)).mono ?_)
      rintro e wb ⟨sv, rfl, hpr, kbt⟩
      obtain ⟨L, hL⟩ : ∃ L, aboveP (lastK T) (decide (i = 0)) P = L := ⟨_, rfl⟩
      rw [hL] at hpr ⊢
      simp only [batchP, Int.toNat_natCast] at hpr ⊢
      obtain ⟨ba, bc, e, -, -, hbc⟩ := own_form hpr.1
      obtain ⟨B, hB⟩ : ∃ B, L.take N = B := ⟨_, rfl⟩
      rw [hB] at hpr e
      subst e
      have CBT := Lib.hid (show ChgB ba bc B (.slice ta T.length tc) wb from ⟨hpr.1, fun b e => ⟨(hpr.1.lt b e).2, fun e2 => by have h1 := hpr.2 b e; have h2 := (WW.out.1.tnew b e2).2.1; omega⟩⟩)
      have WB := Lib.hid (And.intro (WW.out.1.keep kbt) (WW.out.2.1.keep kbt))
      have HLB := Lib.hid (And.intro hL (And.intro hB (show L = B ++ L.drop N from by rw [← hB]; exact (List.take_append_drop _ _).symm)))
      have BN := Lib.hid (show B.length ≤ N from by rw [← hB, List.length_take]; omega)
      obtain ⟨more, hmore⟩ : ∃ more, decide (N < L.length) = more := ⟨_, rfl⟩
      rw [hmore]
      have HMORE := Lib.hid hmore
      obtain ⟨nB, hnB⟩ : ∃ nB, B.length = nB := ⟨_, rfl⟩
      rw [hnB]
      have HNB := Lib.hid hnB
      clear hses hFb hpr kbt hL hB hbc hmore hnB
      gi_wp2_with fail
      gi_loopw [17, 22] (fun s17 s22 wq => ∃ (j : Nat) (Tj : List ByteArray) (ta' : Option Addr) (tc' : Nat), j ≤ nB ∧ Tj = T ++ (B.take j).map (·.1) ∧ s22 = .int .i64 (j : Int) ∧ s17 = .slice ta' Tj.length tc' ∧ ChgW W rb sb mb (.slice ta' Tj.length tc') Tj g dl wq ∧ ChgT W m bt P (yB rb sb mb (.slice ta' Tj.length tc') dl) wq ∧ ChgB ba bc B (.slice ta' Tj.length tc') wq) (fun _ s22 _ => nB - (intOf s22).toNat)
      case atStart => exact ⟨0, T, ta, tc, Nat.zero_le _, by simp, rfl, rfl, WB.out.1, WB.out.2, CBT.out⟩
      case round =>
        obtain ⟨j, Tj, ta', tc', hj, hTj, rfl, rfl, hW, hT, hCB⟩ := hrel
        have WQ := Lib.hid (And.intro hW (And.intro hT hCB))
        have HTJ := Lib.hid hTj
        have hrowB := hCB.1
        have hrowT := hW.told
        clear hW hT hCB hTj
        by_cases hjl : j < nB
        · obtain ⟨p, hp⟩ : ∃ p, B[j]? = some p := ⟨_, List.getElem?_eq_getElem (by rw [HNB.out]; exact hjl)⟩
          have HP := Lib.hid hp
          have hjn : (j : Int) < (nB : Int) := by omega
          have hj9 : j ≤ 9 := by have h1 := BN.out; have h2 := HN.out; have h3 := HNB.out; omega
          have hw9j : wrap64 ((j : Int) + 1) = (j : Int) + 1 := IntWalk.wrap64_in _ (by omega)
          have hj0 : (0 : Int) ≤ (j : Int) := by omega
          have hrise : RiseK (Tj ++ [p.1]) := by
            have h1 := chg_rise II.out.1 HND.out (HLB.out.1.trans HLB.out.2.2)
            rw [HTJ.out, List.append_assoc, show (B.take j).map (·.1) ++ [p.1] = (B.take (j + 1)).map (·.1) from by rw [take_snoc' hp, List.map_append]; rfl]
            exact h1.sublist (List.Sublist.append (List.Sublist.refl T) ((List.take_sublist _ _).map _))
          obtain ⟨ba', bc', e, hgb, -, -⟩ := own_form hrowB
          obtain ⟨bg, hbg⟩ := hgb (by rw [HNB.out]; omega)
          rw [Value.slice.injEq] at e
          obtain ⟨e1, -, -⟩ := e
          rw [← e1] at hbg
          subst hbg
          have d0 := own_cell hrowB (prV_at hp).1
          have TLEN : Tj.length ≤ 40 := by
            have h1 := BN.out
            have h2 := HN.out
            have h3 := II.out.2.2
            have h4 := HNB.out
            rw [HTJ.out, List.length_append, List.length_map, List.length_take]
            omega
          obtain ⟨tn, htn⟩ : ∃ tn, Tj.length = tn := ⟨_, rfl⟩
          have HTN := Lib.hid htn
          rw [htn] at hrowT TLEN ⊢
          obtain ⟨w9, hw9, t9⟩ : ∃ w9, w9 = ({ wr with drawn := wr.drawn + 1 } : World) ∧ Twin w9 wr := ⟨_, rfl, rfl, rfl, rfl, rfl⟩
          have KW9 := Lib.hid ((Kept.refl (fun _ => False) wr).twin t9)
          have HROW := Lib.hid (ownsRow_kept hrowT (KW9.out.trans (Kept.one_alloc w9 (.cells #[.string p.1] 9)) (fun _ _ e => e)) (fun _ _ e => e))
          have TLN := Lib.hid (show tn + 1 ≤ 100 from by omega)
          have d9 : w9.cell? ⟨bg, j * 2, none⟩ = some (.string p.1) := by obtain ⟨_, rfl⟩ := t9.eq; exact d0
          rcases tn with _ | t'
          case' zero =>
            clear hrowB hrowT hp e1 hgb hrise t9 htn d0 TLEN
            gi_upto_region 22 with fail
            refine wpW_region_still (by kernel_rfl) (by kernel_rfl) ?_
            rw [← hw9]
            clear hw9
            with_reducible refine wpStill_want (by kernel_rfl) (fun K hK => ?_); go_simp; with_reducible refine hK _ ?_; clear hK K
            with_reducible refine wpStill_want (by kernel_rfl) (fun K hK => ?_); go_simp; with_reducible refine hK _ ?_; clear hK K
            with_reducible refine wpStill_want (by kernel_rfl) (fun K hK => ?_); go_simp; with_reducible refine hK _ ?_; clear hK K
            with_reducible refine wpStill_want (by kernel_rfl) (fun K hK => ?_); go_simp; with_reducible refine hK _ ?_; clear hK K
            with_reducible refine wpStill_pass (by kernel_rfl) (fun K hK => ?_); go_simp; with_reducible refine hK _ ?_; clear hK K
            with_reducible refine wpStill_pass (by kernel_rfl) (fun K hK => ?_); go_simp; with_reducible refine hK _ ?_; clear hK K
            with_reducible refine wpStill_pass (by kernel_rfl) (fun K hK => ?_); go_simp; with_reducible refine hK _ ?_; clear hK K
            with_reducible refine wpStill_pass (by kernel_rfl) (fun K hK => ?_); go_simp; with_reducible refine hK _ ?_; clear hK K
            with_reducible refine wpStill_pass (by kernel_rfl) (fun K hK => ?_); go_simp; with_reducible refine hK _ ?_; clear hK K
            with_reducible refine wpStill_pass (by kernel_rfl) (fun K hK => ?_); go_simp; with_reducible refine hK _ ?_; clear hK K
            with_reducible refine wpStill_pass (by kernel_rfl) (fun K hK => ?_); go_simp; with_reducible refine hK _ ?_; clear hK K
            with_reducible refine wpStill_pass (by kernel_rfl) (fun K hK => ?_); go_simp; with_reducible refine hK _ ?_; clear hK K
            with_reducible refine wpStill_pass (by kernel_rfl) (fun K hK => ?_); go_simp; with_reducible refine hK _ ?_; clear hK K
            with_reducible refine wpStill_pass (by kernel_rfl) (fun K hK => ?_); go_simp; with_reducible refine hK _ ?_; clear hK K
            with_reducible refine wpStill_pass (by kernel_rfl) (fun K hK => ?_); go_simp; with_reducible refine hK _ ?_; clear hK K
            with_reducible refine wpStill_pass (by kernel_rfl) (fun K hK => ?_); go_simp; with_reducible refine hK _ ?_; clear hK K
            with_reducible refine wpStill_want (by kernel_rfl) (fun K hK => ?_); go_simp; with_reducible refine hK _ ?_; clear hK K
            refine wpStill_nil ?_
            gi_wp2_with (first
              | (gi_at_builtin; refine wpListW_append_mine rfl _ _ strE rfl rfl HROW.out (some ⟨w9.heap.size, 0, none⟩) 1 1 [.string p.1] rfl rfl (holds_block (heap_alloc_new w9 _)) (by simp [Value.oneCell']) (Nat.le_trans TLN.out (by decide)) (Nat.le_trans (Nat.mul_le_mul_right 16 TLN.out) (by decide)) ?_
                 intro a1 c1 w7 h2 h3 h4
                 go_frame)
              | (rw [Oper.semAt_eq _ _ _ (fun c h => by cases h)]; go_simp; try go_bits))
            have A7 := Lib.hid (And.intro h2 (And.intro h3 h4))
            clear h2 h3 h4
            gi_wp2_with fail
            go_roundw
            case rel =>
              have k9 : Kept (fun _ => False) wr (w9.alloc (.cells #[.string p.1] 9)) := KW9.out.trans (Kept.one_alloc _ _) (fun _ _ e => e)
              have htl : (Tj ++ [p.1]).length = 1 := by rw [List.length_append, HTN.out]; rfl
              have own7 := A7.out.1
              have eW := WQ.out.1.tell k9 (by rw [HTN.out]; exact own7) (by rw [HTN.out]; exact A7.out.2.1) (by rw [HTN.out]; exact A7.out.2.2)
              have eT := WQ.out.2.1.tell (tv' := .slice a1 (1) c1) k9 (by rw [HTN.out]; exact A7.out.2.1) (by rw [HTN.out]; exact A7.out.2.2)
              have eB := WQ.out.2.2.tell (tv' := .slice a1 (1) c1) k9 (by rw [HTN.out]; exact A7.out.2.1) (by rw [HTN.out]; exact A7.out.2.2)
              refine ⟨j + 1, Tj ++ [p.1], a1, c1, hjl, ?_, by go_num, by rw [htl], ?_, ?_, ?_⟩
              · rw [HTJ.out, take_snoc' HP.out, List.map_append, List.append_assoc]
                rfl
              · rw [htl]
                exact eW
              · rw [htl]
                exact eT
              · rw [htl]
                exact eB
            case measure => (simp [intOf] <;> omega)
          case' succ =>
            obtain ⟨ta2, tc2, e, hgt, -, -⟩ := own_form hrowT
            obtain ⟨tg, htg⟩ := hgt (by omega)
            rw [Value.slice.injEq] at e
            obtain ⟨e2, -, -⟩ := e
            rw [← e2] at htg
            subst htg
            have hlast : Tj[t']? = some (lastK Tj) := by
              obtain ⟨A', z, rfl⟩ := (List.eq_nil_or_concat Tj).resolve_left (fun e => by rw [e] at htn; cases htn)
              rw [List.concat_eq_append] at htn ⊢
              rw [List.length_append] at htn
              have : A'.length = t' := by simpa using htn
              rw [lastK_snoc, List.getElem?_append_right (by omega), this, Nat.sub_self]
              rfl
            have dt : w9.cell? ⟨tg, t', none⟩ = some (.string (lastK Tj)) := by obtain ⟨_, rfl⟩ := t9.eq; exact own_cell hrowT (strs_at hlast)
            have hlt9 : keyLt (lastK Tj) p.1 = true := (List.pairwise_append.1 hrise).2.2 _ (List.mem_of_getElem? hlast) p.1 (by simp)
            obtain ⟨hb1, hb2⟩ := le_no13 hlt9
            have n1 : (0 : Int) ≤ (t' : Int) + 1 := by omega
            have n2 : (t' : Int) < (t' : Int) + 1 := by omega
            have n3 : (0 : Int) < (t' : Int) + 1 := by omega
            have n4 : IntKind.i64.wrap ((t' : Int) + 1 - 1) = (t' : Int) := by rw [IntWalk.i64_in _ (by omega)]; omega
            have n5 : wrap64 ((t' : Int) + 1 - 1) = (t' : Int) := by rw [IntWalk.wrap64_in _ (by omega)]; omega
            have n6 : IntKind.i64.wrap (t' : Int) = (t' : Int) := IntWalk.i64_in _ (by omega)
            have n7 : (0 : Int) ≤ (t' : Int) := by omega
            have n8 : decide ((0 : Int) < (t' : Int) + 1) = true := decide_eq_true n3
            generalize lastK Tj = lk at dt hb1 hb2
            clear hrowB hrowT hp e1 e2 hgb hgt hrise t9 htn d0 hlast hlt9 TLEN
            gi_upto_region 22 with fail
            refine wpW_region_still (by kernel_rfl) (by kernel_rfl) ?_
            rw [← hw9]
            clear hw9
            with_reducible refine wpStill_want (by kernel_rfl) (fun K hK => ?_); go_simp; with_reducible refine hK _ ?_; clear hK K
            with_reducible refine wpStill_want (by kernel_rfl) (fun K hK => ?_); go_simp; with_reducible refine hK _ ?_; clear hK K
            with_reducible refine wpStill_want (by kernel_rfl) (fun K hK => ?_); go_simp; with_reducible refine hK _ ?_; clear hK K
            with_reducible refine wpStill_want (by kernel_rfl) (fun K hK => ?_); go_simp; with_reducible refine hK _ ?_; clear hK K
            with_reducible refine wpStill_want (by kernel_rfl) (fun K hK => ?_); go_simp; with_reducible refine hK _ ?_; clear hK K
            with_reducible refine wpStill_want (by kernel_rfl) (fun K hK => ?_); go_simp; with_reducible refine hK _ ?_; clear hK K
            with_reducible refine wpStill_want (by kernel_rfl) (fun K hK => ?_); go_simp; with_reducible refine hK _ ?_; clear hK K
            with_reducible refine wpStill_want (by kernel_rfl) (fun K hK => ?_); go_simp; with_reducible refine hK _ ?_; clear hK K
            with_reducible refine wpStill_want (by kernel_rfl) (fun K hK => ?_); go_simp; with_reducible refine hK _ ?_; clear hK K
            with_reducible refine wpStill_want (by kernel_rfl) (fun K hK => ?_); go_simp; with_reducible refine hK _ ?_; clear hK K
            with_reducible refine wpStill_want (by kernel_rfl) (fun K hK => ?_); go_simp; with_reducible refine hK _ ?_; clear hK K
            with_reducible refine wpStill_want (by kernel_rfl) (fun K hK => ?_); go_simp; with_reducible refine hK _ ?_; clear hK K
            with_reducible refine wpStill_want (by kernel_rfl) (fun K hK => ?_); go_simp; with_reducible refine hK _ ?_; clear hK K
            with_reducible refine wpStill_want (by kernel_rfl) (fun K hK => ?_); go_simp; with_reducible refine hK _ ?_; clear hK K
            with_reducible refine wpStill_want (by kernel_rfl) (fun K hK => ?_); go_simp; with_reducible refine hK _ ?_; clear hK K
            with_reducible refine wpStill_want (by kernel_rfl) (fun K hK => ?_); go_simp; with_reducible refine hK _ ?_; clear hK K
            with_reducible refine wpStill_want (by kernel_rfl) (fun K hK => ?_); go_simp; with_reducible refine hK _ ?_; clear hK K
            refine wpStill_nil ?_
            gi_wp2_with (first
              | (gi_at_builtin; refine wpListW_append_mine rfl _ _ strE rfl rfl HROW.out (some ⟨w9.heap.size, 0, none⟩) 1 1 [.string p.1] rfl rfl (holds_block (heap_alloc_new w9 _)) (by simp [Value.oneCell']) (Nat.le_trans TLN.out (by decide)) (Nat.le_trans (Nat.mul_le_mul_right 16 TLN.out) (by decide)) ?_
                 intro a1 c1 w7 h2 h3 h4
                 go_frame)
              | (rw [Oper.semAt_eq _ _ _ (fun c h => by cases h)]; go_simp; try go_bits))
            have A7 := Lib.hid (And.intro h2 (And.intro h3 h4))
            clear h2 h3 h4
            gi_wp2_with fail
            go_roundw
            case rel =>
              have k9 : Kept (fun _ => False) wr (w9.alloc (.cells #[.string p.1] 9)) := KW9.out.trans (Kept.one_alloc _ _) (fun _ _ e => e)
              have htl : (Tj ++ [p.1]).length = t' + 1 + 1 := by rw [List.length_append, HTN.out]; rfl
              have own7 := A7.out.1
              have eW := WQ.out.1.tell k9 (by rw [HTN.out]; exact own7) (by rw [HTN.out]; exact A7.out.2.1) (by rw [HTN.out]; exact A7.out.2.2)
              have eT := WQ.out.2.1.tell (tv' := .slice a1 (t' + 1 + 1) c1) k9 (by rw [HTN.out]; exact A7.out.2.1) (by rw [HTN.out]; exact A7.out.2.2)
              have eB := WQ.out.2.2.tell (tv' := .slice a1 (t' + 1 + 1) c1) k9 (by rw [HTN.out]; exact A7.out.2.1) (by rw [HTN.out]; exact A7.out.2.2)
              refine ⟨j + 1, Tj ++ [p.1], a1, c1, hjl, ?_, by go_num, by rw [htl], ?_, ?_, ?_⟩
              · rw [HTJ.out, take_snoc' HP.out, List.map_append, List.append_assoc]
                rfl
              · rw [htl]
                exact eW
              · rw [htl]
                exact eT
              · rw [htl]
                exact eB
            case measure => (simp [intOf] <;> omega)
        · obtain rfl : j = nB := by omega
          have hTB : Tj = T ++ B.map (·.1) := by rw [HTJ.out, List.take_of_length_le (by rw [HNB.out]; omega)]
          have HTB := Lib.hid hTB
          clear hjl hTB hrowT
          cases more
          · gi_wp2_with fail
            have hLN : L.length ≤ N := by have h := HMORE.out; simpa using h
            have hBL : B = L := by rw [← HLB.out.2.1, List.take_of_length_le hLN]
            have ALL := Lib.hid (show ∀ k, g k = some true → k ∈ Tj from by
              rw [HTB.out, hBL]
              exact chg_last II.out.1 HLB.out.1)
            have T100 := Lib.hid (show Tj.length ≤ 100 from by
              have h1 := BN.out
              have h2 := HN.out
              have h3 := II.out.2.2
              rw [HTB.out, List.length_append, List.length_map]
              omega)
            clear hLN hBL hrowB
            have hwx := WQ.out.1
            gi_loopw [26] (fun s26 wq => ∃ q : Nat, q ≤ Tj.length ∧ s26 = .int .i64 (q : Int) ∧ ChgW W rb sb mb (.slice ta' Tj.length tc') Tj (offG g (Tj.take q)) dl wq ∧ ChgT W m bt P (yB rb sb mb (.slice ta' Tj.length tc') dl) wq) (fun s26 _ => Tj.length - (intOf s26).toNat)
            case atStart => exact ⟨0, Nat.zero_le _, rfl, hwx, WQ.out.2.1⟩
            case round =>
              obtain ⟨q, hq, rfl, hW3, hT3⟩ := hrel
              clear hwx
              have W3 := Lib.hid (And.intro hW3 hT3)
              clear hW3 hT3
              by_cases hql : q < Tj.length
              · obtain ⟨k, hk⟩ : ∃ k, Tj[q]? = some k := ⟨_, List.getElem?_eq_getElem hql⟩
                have HK := Lib.hid hk
                have hql' : (q : Int) < (Tj.length : Int) := Int.ofNat_lt.2 hql
                have hq0 : (0 : Int) ≤ (q : Int) := Int.natCast_nonneg q
                have hrowT := W3.out.1.told
                obtain ⟨ta2, tc2, e, hgt, -, -⟩ := own_form hrowT
                obtain ⟨tg, htg⟩ := hgt (Nat.lt_of_le_of_lt (Nat.zero_le q) hql)
                rw [Value.slice.injEq] at e
                obtain ⟨e2, -, -⟩ := e
                rw [← e2] at htg
                subst htg
                have CL3 := Lib.hid (show ∀ w', Kept (fun b => b = mb) wr w' → w'.cell? ⟨sb, 0, none⟩ = some (.map (some mb)) ∧ w'.cell? ⟨tg, q, none⟩ = some (.string k) from fun w' kk => ⟨(W3.out.1.sbox.kept kk (fun e => W3.out.1.mnew.2.2 (Eq.symm e))).cell, own_cell (ownsRow_kept W3.out.1.told kk (fun b e e' => (W3.out.1.tnew b e).2.2.2.2 e')) (strs_at HK.out)⟩)
                obtain ⟨w9, hup, hmap9, kup, hz9⟩ := run_updateB (P := Tryz.prog) Tryz.underlying75 Tryz.underlying9 (W3.out.1.map.kept (Kept.refl (fun _ => False) wr).drew (fun e => e)) k false
                have KU := Lib.hid (show Kept (fun b => b = mb) wr w9 from (((Kept.refl (fun _ => False) wr).drew).mono fun _ _ e => e.elim).trans kup (fun _ _ e => e))
                have HMAP9 := Lib.hid hmap9
                have hq9 : wrap64 ((q : Int) + 1) = (q : Int) + 1 := wrap_small (Nat.lt_of_lt_of_le hql T100.out)
                have HQL := Lib.hid hql
                clear hk hrowT hgt e2 kup hz9 hmap9 hql
                gi_upto_region 40 with fail
                refine wpW_region_held (S := fun w' => w'.cell? ⟨sb, 0, none⟩ = some (.map (some mb)) ∧ w'.cell? ⟨tg, q, none⟩ = some (.string k)) (by kernel_rfl) (by kernel_rfl) (by rintro ⟨_, _, h⟩; first | exact h.elim | (obtain ⟨h1, -⟩ := h; cases h1)) ?_ (fun hHeld => ?_)
                · exact CL3.out _ ((Kept.refl _ _).twin ⟨rfl, rfl, rfl, rfl⟩)
                refine held_take 0 (oi := _) (v := ?_) rfl (by kernel_rfl) (by kernel_rfl) (by kernel_rfl) (fun _ _ _ h => h) (by rfl) (fun w hSw => ?_) (by assumption) ?_
                rotate_left
                · (try dsimp only at hSw); go_simp; try with_reducible rfl
                try simp only [Act.put, List.setIfInBounds_toArray, List.set_cons_zero, List.set_cons_succ]
                refine held_take 1 (oi := _) (v := ?_) rfl (by kernel_rfl) (by kernel_rfl) (by kernel_rfl) (fun _ _ _ h => h) (by rfl) (fun w hSw => ?_) (by assumption) ?_
                rotate_left
                · (try dsimp only at hSw); go_simp; try with_reducible rfl
                try simp only [Act.put, List.setIfInBounds_toArray, List.set_cons_zero, List.set_cons_succ]
                refine held_take 2 (oi := _) (v := ?_) rfl (by kernel_rfl) (by kernel_rfl) (by kernel_rfl) (fun _ _ _ h => h) (by rfl) (fun w hSw => ?_) (by assumption) ?_
                rotate_left
                · (try dsimp only at hSw); go_simp; try with_reducible rfl
                try simp only [Act.put, List.setIfInBounds_toArray, List.set_cons_zero, List.set_cons_succ]
                refine held_take 3 (oi := _) (v := ?_) rfl (by kernel_rfl) (by kernel_rfl) (by kernel_rfl) (fun _ _ _ h => h) (by rfl) (fun w hSw => ?_) (by assumption) ?_
                rotate_left
                · (try dsimp only at hSw); go_simp; try with_reducible rfl
                try simp only [Act.put, List.setIfInBounds_toArray, List.set_cons_zero, List.set_cons_succ]
                refine held_take 4 (oi := _) (v := ?_) rfl (by kernel_rfl) (by kernel_rfl) (by kernel_rfl) (fun _ _ _ h => h) (by rfl) (fun w hSw => ?_) (by assumption) ?_
                rotate_left
                · (try dsimp only at hSw); go_simp; try with_reducible rfl
                try simp only [Act.put, List.setIfInBounds_toArray, List.set_cons_zero, List.set_cons_succ]
                refine wpAnyH_ready (rs := [5]) (by kernel_rfl) (by simp) ?_
                refine held_cons 5 (o := _) rfl (fun KC hKC => ?_) AllReadyH.nil
                go_simp
                try (rw [hup]; simp only [Result.andThen]; go_simp)
                refine hKC.out _ _ ?_ (fun hHeld => ?_)
                · exact CL3.out _ KU.out
                clear hKC KC
                try simp only [Act.put, List.setIfInBounds_toArray, List.set_cons_zero, List.set_cons_succ]
                refine wpAnyH_done (by kernel_rfl) (NoPanic.normal ?_) _
                gi_wp2_with fail
                go_roundw
                case rel =>
                  refine ⟨q + 1, HQL.out, by first | rfl | (rw [hq9]; rfl), ?_, W3.out.2.kept KU.out (fun b e => .inl (.inr (.inr (.inl e))))⟩
                  refine W3.out.1.remap KU.out ?_
                  refine HMAP9.out.congr (fun j => ?_)
                  rw [show Tj.take (q + 1) = Tj.take q ++ [k] from by
                    obtain ⟨h1, h2⟩ := List.getElem?_eq_some_iff.1 HK.out
                    rw [List.take_succ_eq_append_getElem h1, h2]]
                  exact offG_snoc g (Tj.take q) k j
                case measure => rw [hq9]; exact meas_nxt HQL.out
              · obtain rfl : q = Tj.length := Nat.le_antisymm hq (Nat.not_lt.1 hql)
                have W4 := Lib.hid (show ChgW W rb sb mb (.slice ta' Tj.length tc') Tj (offG g Tj) dl wr ∧ ChgT W m bt P (yB rb sb mb (.slice ta' Tj.length tc') dl) wr from ⟨by have h := W3.out.1; rw [List.take_of_length_le (Nat.le_refl _)] at h; exact h, W3.out.2⟩)
                clear hql W3
                gi_wp2_with fail
                obtain ⟨F2, hses2, hF2⟩ := W4.out.2
                obtain ⟨iv2, E2, F3, hT2, hPE2, hF3⟩ := hses2
                have HT2 := Lib.hid (And.intro hT2 hPE2)
                refine callsIn_WR.2 ((keys_any hT2).mono ?_)
                rintro e w6 ⟨kb, rfl, hky, k6, hkb⟩
                have hnf := run_eq_nilFunc (P := Tryz.prog) w6 (.func 46) #[] #[.pointer (some ⟨kb, 0, none⟩)] Tryz.underlying72
                have H6 := Lib.hid (And.intro hky (And.intro k6 hkb))
                clear hT2 hPE2 hF3 hF2 hky k6 hkb
                gi_wp2_with fail
                obtain ⟨hky, k6, hkb⟩ := H6.out
                have hitr := keys1_any kb bt m iv2 E2 F3
                refine wpW_rangeG hitr rfl keys_enters (fun _ => by rfl) (fun (pre : List ByteArray) U W' => True) (fun _ _ _ => False) (fun b => False)
                  (fun pre U W W' h k => trivial) (fun _ _ _ _ h _ => h) (fun b e => e.elim) hky.dlt (fun b e => e.elim) hky (fun W W' h k => h.kept k (fun b hb e => e hb)) trivial ?_ ?_ (fun _ _ _ _ h => h.elim)
                · intro l pre k rest U' W7 hitems hi hkw hlt' hD' hRd' hl hlD hlW hlw hUU
                  have LK := Lib.hid (And.intro hlt' (And.intro hl (And.intro hlW (And.intro hlw hkw))))
                  clear hi hlt' hD' hRd' hlD hkw hitems hnf hl hlw hUU hlW hky k6 hkb hitr
                  simp only [List.zip_toArray, List.zip_cons_cons, List.zip_nil_left, List.foldl_toArray', List.foldl_cons, List.foldl_nil, List.setIfInBounds_toArray, List.set_cons_succ, List.set_cons_zero]
                  gi_wp2_with (rw [Oper.semAt_eq _ _ _ (fun c h => by cases h)]; go_simp; try go_bits)
                  refine ⟨trivial, ?_⟩
                  intro W8 kl zl
                  clear zl
                  obtain ⟨hlt', hl, hlW, hlw, hkw⟩ := LK.out
                  have k8 : Kept (fun b => b = l) wr W8 := ((H6.out.2.1.mono fun _ _ e => e.elim).trans hkw (fun _ _ e => e.elim)).trans kl (fun _ _ e => e)
                  have hz6 := H6.out.2.1.size
                  have sb8 := W4.out.1.sbox.kept k8 (fun e => by have e : sb = l := e; have := W4.out.1.sbox.lt; omega)
                  have mb8 := W4.out.1.map.kept k8 (fun e => by have e : mb = l := e; have := W4.out.1.map.lt; omega)
                  have hcs := sb8.cell
                  have hlk := run_lookupB (P := Tryz.prog) Tryz.underlying75 Tryz.underlying9 zbool mb8 k
                  rw [off_false ALL.out k] at hlk
                  have KL := Lib.hid kl
                  clear hlt' hl hlW hlw hkw k8 hz6 sb8 mb8 kl
                  gi_wp2_with (first | (rw [hlk]; simp only [Result.andThen]; go_simp; done) | (rw [Oper.semAt_eq _ _ _ (fun c h => by cases h)]; go_simp; try go_bits))
                  obtain ⟨hlt', hl, hlW, hlw, hkw⟩ := LK.out
                  obtain ⟨e1, e2, e3, e4⟩ := round_plain (U := U') KL.out hl hlt' hlW (Kept.refl U' W8)
                  exact ⟨e1, _, e2, e3, e4, trivial⟩
                · intro items dk3 U3 W9 hfull hi kW hR hmkd hdkl hdkU hUU hUn hUl
                  have k9 : Kept (fun _ => False) wr W9 := k6.trans kW (fun _ _ e => e.elim)
                  have F9 := Lib.hid (And.intro (W4.out.1.keep k9) (And.intro hmkd (show wr.heap.size ≤ dk3 from Nat.le_trans k6.size hdkl)))
                  have hcr := F9.out.1.rbox.cell
                  have hfr := F9.out.1.rbox.frozen
                  clear hfull hi kW hR hmkd hdkl hdkU hUU hUn hUl hky k6 hkb hitr hnf k9
                  gi_wp2_with fail
                  obtain ⟨hcw, hmkd, hdkl⟩ := F9.out
                  have ks := Kept.one_set W9 ⟨rb, 0, none⟩ (.bool true)
                  have hrl := W4.out.1.rbox.lt
                  have hrn := hcw.rnew
                  have hin : ∀ d ∈ dk3 :: dl, W.heap.size ≤ d ∧ d ≠ rb := fun d hd => by
                    rcases List.mem_cons.1 hd with rfl | hd
                    · exact ⟨by omega, by omega⟩
                    · exact ⟨(hcw.marks d hd).2.1, (hcw.marks d hd).2.2.1⟩
                  refine leaves_marks (dk3 :: dl) _ (List.nodup_cons.2 ⟨fun e => ?_, hcw.nd⟩) (fun d hd => ?_) (fun W' kd' => ?_)
                  · have := W4.out.1.lt dk3 (.inr (.inr (.inr (.inr e))))
                    omega
                  · rcases List.mem_cons.1 hd with rfl | hd'
                    · exact (ks.block _ (Array.getElem?_eq_some_iff.1 hmkd).1 (hin _ hd).2).trans hmkd
                    · exact (ks.block _ (Array.getElem?_eq_some_iff.1 (hcw.marks d hd').1).1 (hin _ hd).2).trans (hcw.marks d hd').1
                  · have hb := (hcw.rbox.set (.bool true)).kept kd' (fun e => (hin _ e).2 rfl)
                    refine ⟨_, results_box rfl Tryz.underlying4 rfl rfl hb, rfl, ?_⟩
                    exact (hcw.back.trans ks (fun b hb e => by have e : b = rb := e; omega)).trans kd' (fun b hb e => by have := (hin b e).1; omega)
          · have hLN : N < L.length := by simpa using HMORE.out
            have hBl : B.length = N := by rw [← HLB.out.2.1, List.length_take]; omega
            obtain ⟨nb', rfl⟩ : ∃ nb', j = nb' + 1 := ⟨j - 1, by have := HNB.out; have := HN.out; omega⟩
            have hBne : B ≠ [] := fun e => by have := HNB.out; rw [e] at this; cases this
            have HBN := Lib.hid hBne
            obtain ⟨z, hz⟩ : ∃ z, B[nb']? = some z := ⟨_, List.getElem?_eq_getElem (by have := HNB.out; omega)⟩
            have hlastz : lastK Tj = z.1 := by
              obtain ⟨B', z', rfl⟩ := (List.eq_nil_or_concat B).resolve_left hBne
              rw [List.concat_eq_append] at hz
              have hl : B'.length = nb' := by have := HNB.out; rw [List.concat_eq_append, List.length_append] at this; simpa using this
              rw [List.getElem?_append_right (by omega), hl, Nat.sub_self] at hz
              have hz : z' = z := Option.some.inj hz
              rw [HTB.out, List.concat_eq_append, List.map_append, ← List.append_assoc, ← hz]
              exact lastK_snoc _ _
            obtain ⟨ba', bc', e, hgb, -, -⟩ := own_form hrowB
            obtain ⟨bg, hbg⟩ := hgb (by rw [HNB.out]; omega)
            rw [Value.slice.injEq] at e
            obtain ⟨e1, -, -⟩ := e
            rw [← e1] at hbg
            subst hbg
            have d0 := own_cell hrowB (prV_at hz).1
            rw [← hlastz] at d0
            have n0 : nb' ≤ 9 := by have h1 := HNB.out; have h2 := HN.out; omega
            have n1 : (0 : Int) ≤ (nb' : Int) + 1 := by omega
            have n2 : (nb' : Int) < (nb' : Int) + 1 := by omega
            have n4 : IntKind.i64.wrap ((nb' : Int) + 1 - 1) = (nb' : Int) := by rw [IntWalk.i64_in _ (by omega)]; omega
            have n5 : wrap64 ((nb' : Int) + 1 - 1) = (nb' : Int) := by rw [IntWalk.wrap64_in _ (by omega)]; omega
            have n7 : (0 : Int) ≤ (nb' : Int) := by omega
            clear hrowB e1 hgb hz hlastz hBl hLN hBne
            gi_upto_if 104 with fail
            gi_cut [23, 142, 143, 144, 145, 146, 147, 148, 149, 150, 151, 152, 153, 154, 155, 156, 157, 158, 159] from 101 (fun s23 s142 s143 s144 s145 s146 s147 s148 s149 s150 s151 s152 s153 s154 s155 s156 s157 s158 s159 wx => s142 = u142 ∧ s143 = u143 ∧ s144 = u144 ∧ s145 = u145 ∧ s146 = u146 ∧ s147 = u147 ∧ s148 = u148 ∧ s149 = u149 ∧ s150 = u150 ∧ s151 = u151 ∧ s152 = u152 ∧ s153 = u153 ∧ s154 = u154 ∧ s155 = u155 ∧ s156 = u156 ∧ s157 = u157 ∧ s158 = u158 ∧ s159 = u159 ∧ ∃ (P' : List Pr) (A' : List ByteArray), ChgT W m bt P' (yB rb sb mb (.slice ta' Tj.length tc') dl) wx ∧ ChgW W rb sb mb (.slice ta' Tj.length tc') Tj g dl wx ∧ (∀ k ∈ A, k ∈ A') ∧ (∀ p ∈ P', p.1 ∈ A') ∧ A'.length ≤ 12 + (i + 1) / 2)
            case first =>
              by_cases hch : i < n'
              · have hch' : (i : Int) < (n' : Int) := by omega
                obtain ⟨cb, co, rfl, hbW, hst⟩ := HS.out.2 i hch
                have hst2 := hst.kept hbW WQ.out.1.back (fun e => e)
                have e0 := hst2.c0
                have e2 := hst2.c1
                have FK := Lib.hid (fun w => fit_any (ss' i).1 2 hst.sk (by omega) w)
                obtain ⟨mnm, mkd, mks, V, mmx, hmm, hV⟩ : ∃ (nm : ByteArray) (kd ks : Int) (V : Nat) (mx : Int), m = ⟨nm, kd, ks, (V : Int), mx⟩ ∧ V ≤ 256 := by
                  obtain ⟨K, V, hK, hV, -, hV2⟩ := doc_nats HM.out.1.1
                  exact ⟨m.nm, m.kd, m.ks, V, m.mx, by rw [← hV], hV2⟩
                have FV := Lib.hid (fun w => fit_any (ss' i).2 V hst.sv (by omega) w)
                generalize (ss' i).1 = ky at e0 FK
                generalize (ss' i).2 = vl at e2 FV
                have HMM := Lib.hid hmm
                clear hst hst2 d0 hmm
                gi_wp2_with fail
                refine callsIn_WR.2 ((FK.out _).mono ?_)
                rintro e w5 ⟨rfl, k5⟩
                have K5 := Lib.hid k5
                have hand : bits .and .i64 (i : Int) 1 = ((i % 2 : Nat) : Int) := by
                  have h := and_mask (i : Int) 1 (by omega)
                  rw [show ((2 ^ 1 - 1 : Nat) : Int) = 1 from rfl] at h
                  rw [h]
                  omega
                have DC := Lib.hid (show ∀ w', Kept (fun z => W.heap.size ≤ z) w5 w' → w'.cell? ⟨cb, co + i * 2 + 1, none⟩ = some (.string vl) from fun w' kk => (kk.cell (p := ⟨cb, co + i * 2 + 1, none⟩) (Nat.lt_of_lt_of_le hbW (WQ.out.1.back.trans k5 (fun _ _ e => e)).size) (fun e => by have e : W.heap.size ≤ cb := e; omega)).trans ((k5.cell (p := ⟨cb, co + i * 2 + 1, none⟩) (Nat.lt_of_lt_of_le hbW WQ.out.1.back.size) (fun e => e)).trans e2))
                have CW5 := Lib.hid (WQ.out.1.keep k5)
                have CT5 := Lib.hid (And.intro (WQ.out.2.1.keep k5) (And.intro CW5.out.back.size CW5.out.lt))
                clear k5 e0 e2 hbW
                by_cases hpar : i % 2 = 0
                · have hp0 : ((i % 2 : Nat) : Int) = 0 := by omega
                  rw [hp0] at hand
                  obtain ⟨x1, wz, hcv1, kq1, bq1, z1⟩ := bytes_made w5 (fitB ky 2)
                  have Z := Lib.hid (And.intro kq1 bq1)
                  clear kq1 bq1 z1 hp0
                  gi_wp2_with fail
                  refine callsIn_WR.2 ((chgw_del (k := fitB ky 2) (c := x1) CT5.out.1 CT5.out.2.2 Z.out.1 Z.out.2).mono ?_)
                  rintro e w20 ⟨⟨rv, rfl⟩, d20, k20⟩
                  have D20 := Lib.hid (And.intro d20 k20)
                  clear d20 k20 hcv1
                  gi_wp2_with fail
                  gi_meet
                  refine ⟨rfl, rfl, rfl, rfl, rfl, rfl, rfl, rfl, rfl, rfl, rfl, rfl, rfl, rfl, rfl, rfl, rfl, rfl, delP m (fitB ky 2) P, A, D20.out.1, CW5.out.kept D20.out.2 (fun b hb => hb), fun k hk => hk, chg_del m _ II.out.1.subP, ?_⟩
                  have := II.out.1.alen
                  omega
                · have hp1 : ((i % 2 : Nat) : Int) = 1 := by omega
                  rw [hp1] at hand
                  obtain ⟨F5, hF5, -⟩ := CT5.out.1
                  have TMAP := Lib.hid (show ∀ W', Kept (fun _ => False) w5 W' → Calls Tryz.prog 15 #[.pointer (some ⟨bt, 0, none⟩)] W' fun e w' => e = .returned (.agg #[.string mnm, .int .i64 mkd, .int .i64 mks, .int .i64 (V : Int), .int .i64 mmx]) ∧ Kept (fun _ => False) w5 w' ∧ Kept (fun _ => False) W' w' from by
                    intro W' kk
                    refine (ses_map (hF5.keep kk)).mono ?_
                    rintro e w' ⟨rfl, k'⟩
                    exact ⟨by rw [HMM.out]; rfl, kk.trans k' (fun _ _ e => e), k'⟩)
                  have d31 := DC.out w5 (Kept.refl _ _)
                  have hfd := fd3 mnm mkd mks (V : Int) mmx
                  clear hF5 hp1
                  gi_upto_region 31 with fail
                  clear d31
                  refine wpW_region_held (S := fun w' => w'.cell? ⟨cb, co + i * 2 + 1, none⟩ = some (.string vl)) (by kernel_rfl) (by kernel_rfl) (by rintro ⟨_, _, h⟩; first | exact h.elim | (obtain ⟨h1, -⟩ := h; cases h1)) ?_ (fun hHeld => ?_)
                  · exact DC.out _ ((Kept.refl _ _).twin ⟨rfl, rfl, rfl, rfl⟩)
                  refine held_take 0 (oi := _) (v := ?_) rfl (by kernel_rfl) (by kernel_rfl) (by kernel_rfl) (fun _ _ _ h => h) (by rfl) (fun w hSw => ?_) (by assumption) ?_
                  rotate_left
                  · (try dsimp only at hSw); go_simp; try with_reducible rfl
                  try simp only [Act.put, List.setIfInBounds_toArray, List.set_cons_zero, List.set_cons_succ]
                  refine held_take 1 (oi := _) (v := ?_) rfl (by kernel_rfl) (by kernel_rfl) (by kernel_rfl) (fun _ _ _ h => h) (by rfl) (fun w hSw => ?_) (by assumption) ?_
                  rotate_left
                  · (try dsimp only at hSw); go_simp; try with_reducible rfl
                  try simp only [Act.put, List.setIfInBounds_toArray, List.set_cons_zero, List.set_cons_succ]
                  refine held_take 3 (oi := _) (v := ?_) rfl (by kernel_rfl) (by kernel_rfl) (by kernel_rfl) (fun _ _ _ h => h) (by rfl) (fun w hSw => ?_) (by assumption) ?_
                  rotate_left
                  · (try dsimp only at hSw); go_simp; try with_reducible rfl
                  try simp only [Act.put, List.setIfInBounds_toArray, List.set_cons_zero, List.set_cons_succ]
                  refine held_take 4 (oi := _) (v := ?_) rfl (by kernel_rfl) (by kernel_rfl) (by kernel_rfl) (fun _ _ _ h => h) (by rfl) (fun w hSw => ?_) (by assumption) ?_
                  rotate_left
                  · (try dsimp only at hSw); go_simp; try with_reducible rfl
                  try simp only [Act.put, List.setIfInBounds_toArray, List.set_cons_zero, List.set_cons_succ]
                  refine held_take 5 (oi := _) (v := ?_) rfl (by kernel_rfl) (by kernel_rfl) (by kernel_rfl) (fun _ _ _ h => h) (by rfl) (fun w hSw => ?_) (by assumption) ?_
                  rotate_left
                  · (try dsimp only at hSw); go_simp; try with_reducible rfl
                  try simp only [Act.put, List.setIfInBounds_toArray, List.set_cons_zero, List.set_cons_succ]
                  refine held_take 6 (oi := _) (v := ?_) rfl (by kernel_rfl) (by kernel_rfl) (by kernel_rfl) (fun _ _ _ h => h) (by rfl) (fun w hSw => ?_) (by assumption) ?_
                  rotate_left
                  · (try dsimp only at hSw); go_simp; try with_reducible rfl
                  try simp only [Act.put, List.setIfInBounds_toArray, List.set_cons_zero, List.set_cons_succ]
                  refine held_take 7 (oi := _) (v := ?_) rfl (by kernel_rfl) (by kernel_rfl) (by kernel_rfl) (fun _ _ _ h => h) (by rfl) (fun w hSw => ?_) (by assumption) ?_
                  rotate_left
                  · (try dsimp only at hSw); go_simp; try with_reducible rfl
                  try simp only [Act.put, List.setIfInBounds_toArray, List.set_cons_zero, List.set_cons_succ]
                  refine held_take 8 (oi := _) (v := ?_) rfl (by kernel_rfl) (by kernel_rfl) (by kernel_rfl) (fun _ _ _ h => h) (by rfl) (fun w hSw => ?_) (by assumption) ?_
                  rotate_left
                  · (try dsimp only at hSw); go_simp; try with_reducible rfl
                  try simp only [Act.put, List.setIfInBounds_toArray, List.set_cons_zero, List.set_cons_succ]
                  refine wpAnyH_ready (rs := [2, 9]) (by kernel_rfl) (by simp) ?_
                  refine held_cons 2 (o := _) rfl (fun KC hKC => ?_) (held_cons 9 (o := _) rfl (fun KC hKC => ?_) AllReadyH.nil)
                  ·
                    rw [if_pos (by rfl)]
                    go_simp
                    try (rw [conv_row]; go_simp)
                    first | refine conv_abs (K := KC _) ?_ | refine conv_absD (K := KC _) ?_ | refine conv_absDD (K := KC _) ?_
                    intro wC kwC bwC
                    have T2 := Lib.hid (show Kept (fun _ => False) w5 wC from by first | exact T12.out.trans kwC (fun _ _ e => e) | exact TF.out.trans kwC (fun _ _ e => e) | exact TM.out.trans kwC (fun _ _ e => e) | exact ((Kept.refl (fun _ => False) w5).drew).trans kwC (fun _ _ e => e) | exact kwC)
                    have K2 := Lib.hid kwC
                    have B2 := Lib.hid bwC
                    clear kwC bwC
                    refine hKC.out _ _ ?_ (fun hHeld => ?_)
                    · first | exact DC.out _ (D20.out.2.mono fun _ _ e => e.1) | exact DC.out _ (T12.out.mono fun _ _ e => e.elim) | exact DC.out _ (TF.out.mono fun _ _ e => e.elim) | exact DC.out _ (TM.out.mono fun _ _ e => e.elim) | exact DC.out _ (T2.out.mono fun _ _ e => e.elim)
                    clear hKC KC
                    try simp only [Act.put, List.setIfInBounds_toArray, List.set_cons_zero, List.set_cons_succ]
                    refine wpAnyH_ready (rs := [9]) (by kernel_rfl) (by simp) ?_
                    refine held_cons 9 (o := _) rfl (fun KC hKC => ?_) AllReadyH.nil
                    go_simp
                    with_reducible refine Calls.mono (TMAP.out _ ?_) ?_
                    · first | exact T2.out | exact (Kept.refl _ _).twin ⟨rfl, rfl, rfl, rfl⟩
                    rintro e1 wM ⟨rfl, kwM, kwM2⟩
                    have TM := Lib.hid kwM
                    have KM := Lib.hid kwM2
                    clear kwM kwM2
                    dsimp only
                    refine hKC.out _ _ ?_ (fun hHeld => ?_)
                    · first | exact DC.out _ (D20.out.2.mono fun _ _ e => e.1) | exact DC.out _ (T12.out.mono fun _ _ e => e.elim) | exact DC.out _ (TF.out.mono fun _ _ e => e.elim) | exact DC.out _ (TM.out.mono fun _ _ e => e.elim) | exact DC.out _ (T2.out.mono fun _ _ e => e.elim)
                    clear hKC KC
                    try simp only [Act.put, List.setIfInBounds_toArray, List.set_cons_zero, List.set_cons_succ]
                    refine held_take 10 (oi := _) (v := ?_) rfl (by kernel_rfl) (by kernel_rfl) (by kernel_rfl) (fun _ _ _ h => h) (by rfl) (fun w hSw => ?_) (by assumption) ?_
                    rotate_left
                    · (try dsimp only at hSw); go_simp; try with_reducible rfl
                    try simp only [Act.put, List.setIfInBounds_toArray, List.set_cons_zero, List.set_cons_succ]
                    refine wpAnyH_ready (rs := [11]) (by kernel_rfl) (by simp) ?_
                    refine held_cons 11 (o := _) rfl (fun KC hKC => ?_) AllReadyH.nil
                    go_simp
                    with_reducible refine Calls.mono (FV.out _) ?_
                    rintro e1 wF ⟨rfl, kwF⟩
                    have TF := Lib.hid (show Kept (fun _ => False) w5 wF from by first | exact T2.out.trans kwF (fun _ _ e => e) | exact TM.out.trans kwF (fun _ _ e => e) | exact ((Kept.refl (fun _ => False) w5).drew).trans kwF (fun _ _ e => e) | exact kwF)
                    have KF := Lib.hid kwF
                    clear kwF
                    dsimp only
                    refine hKC.out _ _ ?_ (fun hHeld => ?_)
                    · first | exact DC.out _ (D20.out.2.mono fun _ _ e => e.1) | exact DC.out _ (T12.out.mono fun _ _ e => e.elim) | exact DC.out _ (TF.out.mono fun _ _ e => e.elim) | exact DC.out _ (TM.out.mono fun _ _ e => e.elim) | exact DC.out _ (T2.out.mono fun _ _ e => e.elim)
                    clear hKC KC
                    try simp only [Act.put, List.setIfInBounds_toArray, List.set_cons_zero, List.set_cons_succ]
                    refine wpAnyH_ready (rs := [12]) (by kernel_rfl) (by simp) ?_
                    refine held_cons 12 (o := _) rfl (fun KC hKC => ?_) AllReadyH.nil
                    rw [if_pos (by rfl)]
                    go_simp
                    try (rw [conv_row]; go_simp)
                    first | refine conv_abs (K := KC _) ?_ | refine conv_absD (K := KC _) ?_ | refine conv_absDD (K := KC _) ?_
                    intro wD kwD bwD
                    have T12 := Lib.hid (show Kept (fun _ => False) w5 wD from by first | exact T2.out.trans kwD (fun _ _ e => e) | exact TF.out.trans kwD (fun _ _ e => e) | exact ((Kept.refl (fun _ => False) w5).drew).trans kwD (fun _ _ e => e) | exact kwD)
                    have K12 := Lib.hid kwD
                    have B12 := Lib.hid bwD
                    clear kwD bwD
                    refine hKC.out _ _ ?_ (fun hHeld => ?_)
                    · first | exact DC.out _ (D20.out.2.mono fun _ _ e => e.1) | exact DC.out _ (T12.out.mono fun _ _ e => e.elim) | exact DC.out _ (TF.out.mono fun _ _ e => e.elim) | exact DC.out _ (TM.out.mono fun _ _ e => e.elim) | exact DC.out _ (T2.out.mono fun _ _ e => e.elim)
                    clear hKC KC
                    try simp only [Act.put, List.setIfInBounds_toArray, List.set_cons_zero, List.set_cons_succ]
                    refine wpAnyH_ready (rs := [13]) (by kernel_rfl) (by simp) ?_
                    refine held_cons 13 (o := _) rfl (fun KC hKC => ?_) AllReadyH.nil
                    go_simp
                    with_reducible refine Calls.mono (chgw_upd (k := fitB ky 2) (v := fitB vl V) CT5.out.1 CT5.out.2.1 CT5.out.2.2 (by first | exact T12.out | exact T2.out) (by first | exact B2.out | exact B2.out.kept K12.out (fun _ _ _ e => e) | exact (B2.out.kept KF.out (fun _ _ _ e => e)).kept K12.out (fun _ _ _ e => e) | exact ((B2.out.kept KM.out (fun _ _ _ e => e)).kept KF.out (fun _ _ _ e => e)).kept K12.out (fun _ _ _ e => e)) (by first | exact B12.out | exact B12.out.kept K2.out (fun _ _ _ e => e)) (fun b o e => by cases e; first | exact TF.out.size | exact T2.out.size)) ?_
                    rintro e1 w20 ⟨⟨rv, rfl⟩, d20, k20⟩
                    have D20 := Lib.hid (And.intro d20 k20)
                    clear d20 k20
                    dsimp only
                    refine hKC.out _ _ ?_ (fun hHeld => ?_)
                    · first | exact DC.out _ (D20.out.2.mono fun _ _ e => e.1) | exact DC.out _ (T12.out.mono fun _ _ e => e.elim) | exact DC.out _ (TF.out.mono fun _ _ e => e.elim) | exact DC.out _ (TM.out.mono fun _ _ e => e.elim) | exact DC.out _ (T2.out.mono fun _ _ e => e.elim)
                    clear hKC KC
                    try simp only [Act.put, List.setIfInBounds_toArray, List.set_cons_zero, List.set_cons_succ]
                    refine wpAnyH_done (by kernel_rfl) (NoPanic.normal ?_) _
                    gi_wp2_with fail
                    gi_meet
                    refine ⟨rfl, rfl, rfl, rfl, rfl, rfl, rfl, rfl, rfl, rfl, rfl, rfl, rfl, rfl, rfl, rfl, rfl, rfl, updP m (fitB ky 2) (fitB vl V) 0 P, fitB ky 2 :: A, D20.out.1, CW5.out.kept D20.out.2 (fun b hb => hb), fun k hk => .tail _ hk, chg_upd m _ _ 0 II.out.1.subP, ?_⟩
                    have := II.out.1.alen
                    rw [List.length_cons]
                    omega
                  ·
                    go_simp
                    with_reducible refine Calls.mono (TMAP.out _ ?_) ?_
                    · first | exact T2.out | exact (Kept.refl _ _).twin ⟨rfl, rfl, rfl, rfl⟩
                    rintro e1 wM ⟨rfl, kwM, kwM2⟩
                    have TM := Lib.hid kwM
                    have KM := Lib.hid kwM2
                    clear kwM kwM2
                    dsimp only
                    refine hKC.out _ _ ?_ (fun hHeld => ?_)
                    · first | exact DC.out _ (D20.out.2.mono fun _ _ e => e.1) | exact DC.out _ (T12.out.mono fun _ _ e => e.elim) | exact DC.out _ (TF.out.mono fun _ _ e => e.elim) | exact DC.out _ (TM.out.mono fun _ _ e => e.elim) | exact DC.out _ (T2.out.mono fun _ _ e => e.elim)
                    clear hKC KC
                    try simp only [Act.put, List.setIfInBounds_toArray, List.set_cons_zero, List.set_cons_succ]
                    refine held_take 10 (oi := _) (v := ?_) rfl (by kernel_rfl) (by kernel_rfl) (by kernel_rfl) (fun _ _ _ h => h) (by rfl) (fun w hSw => ?_) (by assumption) ?_
                    rotate_left
                    · (try dsimp only at hSw); go_simp; try with_reducible rfl
                    try simp only [Act.put, List.setIfInBounds_toArray, List.set_cons_zero, List.set_cons_succ]
                    refine wpAnyH_ready (rs := [2, 11]) (by kernel_rfl) (by simp) ?_
                    refine held_cons 2 (o := _) rfl (fun KC hKC => ?_) (held_cons 11 (o := _) rfl (fun KC hKC => ?_) AllReadyH.nil)
                    ·
                      rw [if_pos (by rfl)]
                      go_simp
                      try (rw [conv_row]; go_simp)
                      first | refine conv_abs (K := KC _) ?_ | refine conv_absD (K := KC _) ?_ | refine conv_absDD (K := KC _) ?_
                      intro wC kwC bwC
                      have T2 := Lib.hid (show Kept (fun _ => False) w5 wC from by first | exact T12.out.trans kwC (fun _ _ e => e) | exact TF.out.trans kwC (fun _ _ e => e) | exact TM.out.trans kwC (fun _ _ e => e) | exact ((Kept.refl (fun _ => False) w5).drew).trans kwC (fun _ _ e => e) | exact kwC)
                      have K2 := Lib.hid kwC
                      have B2 := Lib.hid bwC
                      clear kwC bwC
                      refine hKC.out _ _ ?_ (fun hHeld => ?_)
                      · first | exact DC.out _ (D20.out.2.mono fun _ _ e => e.1) | exact DC.out _ (T12.out.mono fun _ _ e => e.elim) | exact DC.out _ (TF.out.mono fun _ _ e => e.elim) | exact DC.out _ (TM.out.mono fun _ _ e => e.elim) | exact DC.out _ (T2.out.mono fun _ _ e => e.elim)
                      clear hKC KC
                      try simp only [Act.put, List.setIfInBounds_toArray, List.set_cons_zero, List.set_cons_succ]
                      refine wpAnyH_ready (rs := [11]) (by kernel_rfl) (by simp) ?_
                      refine held_cons 11 (o := _) rfl (fun KC hKC => ?_) AllReadyH.nil
                      go_simp
                      with_reducible refine Calls.mono (FV.out _) ?_
                      rintro e1 wF ⟨rfl, kwF⟩
                      have TF := Lib.hid (show Kept (fun _ => False) w5 wF from by first | exact T2.out.trans kwF (fun _ _ e => e) | exact TM.out.trans kwF (fun _ _ e => e) | exact ((Kept.refl (fun _ => False) w5).drew).trans kwF (fun _ _ e => e) | exact kwF)
                      have KF := Lib.hid kwF
                      clear kwF
                      dsimp only
                      refine hKC.out _ _ ?_ (fun hHeld => ?_)
                      · first | exact DC.out _ (D20.out.2.mono fun _ _ e => e.1) | exact DC.out _ (T12.out.mono fun _ _ e => e.elim) | exact DC.out _ (TF.out.mono fun _ _ e => e.elim) | exact DC.out _ (TM.out.mono fun _ _ e => e.elim) | exact DC.out _ (T2.out.mono fun _ _ e => e.elim)
                      clear hKC KC
                      try simp only [Act.put, List.setIfInBounds_toArray, List.set_cons_zero, List.set_cons_succ]
                      refine wpAnyH_ready (rs := [12]) (by kernel_rfl) (by simp) ?_
                      refine held_cons 12 (o := _) rfl (fun KC hKC => ?_) AllReadyH.nil
                      rw [if_pos (by rfl)]
                      go_simp
                      try (rw [conv_row]; go_simp)
                      first | refine conv_abs (K := KC _) ?_ | refine conv_absD (K := KC _) ?_ | refine conv_absDD (K := KC _) ?_
                      intro wD kwD bwD
                      have T12 := Lib.hid (show Kept (fun _ => False) w5 wD from by first | exact T2.out.trans kwD (fun _ _ e => e) | exact TF.out.trans kwD (fun _ _ e => e) | exact ((Kept.refl (fun _ => False) w5).drew).trans kwD (fun _ _ e => e) | exact kwD)
                      have K12 := Lib.hid kwD
                      have B12 := Lib.hid bwD
                      clear kwD bwD
                      refine hKC.out _ _ ?_ (fun hHeld => ?_)
                      · first | exact DC.out _ (D20.out.2.mono fun _ _ e => e.1) | exact DC.out _ (T12.out.mono fun _ _ e => e.elim) | exact DC.out _ (TF.out.mono fun _ _ e => e.elim) | exact DC.out _ (TM.out.mono fun _ _ e => e.elim) | exact DC.out _ (T2.out.mono fun _ _ e => e.elim)
                      clear hKC KC
                      try simp only [Act.put, List.setIfInBounds_toArray, List.set_cons_zero, List.set_cons_succ]
                      refine wpAnyH_ready (rs := [13]) (by kernel_rfl) (by simp) ?_
                      refine held_cons 13 (o := _) rfl (fun KC hKC => ?_) AllReadyH.nil
                      go_simp
                      with_reducible refine Calls.mono (chgw_upd (k := fitB ky 2) (v := fitB vl V) CT5.out.1 CT5.out.2.1 CT5.out.2.2 (by first | exact T12.out | exact T2.out) (by first | exact B2.out | exact B2.out.kept K12.out (fun _ _ _ e => e) | exact (B2.out.kept KF.out (fun _ _ _ e => e)).kept K12.out (fun _ _ _ e => e) | exact ((B2.out.kept KM.out (fun _ _ _ e => e)).kept KF.out (fun _ _ _ e => e)).kept K12.out (fun _ _ _ e => e)) (by first | exact B12.out | exact B12.out.kept K2.out (fun _ _ _ e => e)) (fun b o e => by cases e; first | exact TF.out.size | exact T2.out.size)) ?_
                      rintro e1 w20 ⟨⟨rv, rfl⟩, d20, k20⟩
                      have D20 := Lib.hid (And.intro d20 k20)
                      clear d20 k20
                      dsimp only
                      refine hKC.out _ _ ?_ (fun hHeld => ?_)
                      · first | exact DC.out _ (D20.out.2.mono fun _ _ e => e.1) | exact DC.out _ (T12.out.mono fun _ _ e => e.elim) | exact DC.out _ (TF.out.mono fun _ _ e => e.elim) | exact DC.out _ (TM.out.mono fun _ _ e => e.elim) | exact DC.out _ (T2.out.mono fun _ _ e => e.elim)
                      clear hKC KC
                      try simp only [Act.put, List.setIfInBounds_toArray, List.set_cons_zero, List.set_cons_succ]
                      refine wpAnyH_done (by kernel_rfl) (NoPanic.normal ?_) _
                      gi_wp2_with fail
                      gi_meet
                      refine ⟨rfl, rfl, rfl, rfl, rfl, rfl, rfl, rfl, rfl, rfl, rfl, rfl, rfl, rfl, rfl, rfl, rfl, rfl, updP m (fitB ky 2) (fitB vl V) 0 P, fitB ky 2 :: A, D20.out.1, CW5.out.kept D20.out.2 (fun b hb => hb), fun k hk => .tail _ hk, chg_upd m _ _ 0 II.out.1.subP, ?_⟩
                      have := II.out.1.alen
                      rw [List.length_cons]
                      omega
                    ·
                      go_simp
                      with_reducible refine Calls.mono (FV.out _) ?_
                      rintro e1 wF ⟨rfl, kwF⟩
                      have TF := Lib.hid (show Kept (fun _ => False) w5 wF from by first | exact T2.out.trans kwF (fun _ _ e => e) | exact TM.out.trans kwF (fun _ _ e => e) | exact ((Kept.refl (fun _ => False) w5).drew).trans kwF (fun _ _ e => e) | exact kwF)
                      have KF := Lib.hid kwF
                      clear kwF
                      dsimp only
                      refine hKC.out _ _ ?_ (fun hHeld => ?_)
                      · first | exact DC.out _ (D20.out.2.mono fun _ _ e => e.1) | exact DC.out _ (T12.out.mono fun _ _ e => e.elim) | exact DC.out _ (TF.out.mono fun _ _ e => e.elim) | exact DC.out _ (TM.out.mono fun _ _ e => e.elim) | exact DC.out _ (T2.out.mono fun _ _ e => e.elim)
                      clear hKC KC
                      try simp only [Act.put, List.setIfInBounds_toArray, List.set_cons_zero, List.set_cons_succ]
                      refine wpAnyH_ready (rs := [2, 12]) (by kernel_rfl) (by simp) ?_
                      refine held_cons 2 (o := _) rfl (fun KC hKC => ?_) (held_cons 12 (o := _) rfl (fun KC hKC => ?_) AllReadyH.nil)
                      ·
                        rw [if_pos (by rfl)]
                        go_simp
                        try (rw [conv_row]; go_simp)
                        first | refine conv_abs (K := KC _) ?_ | refine conv_absD (K := KC _) ?_ | refine conv_absDD (K := KC _) ?_
                        intro wC kwC bwC
                        have T2 := Lib.hid (show Kept (fun _ => False) w5 wC from by first | exact T12.out.trans kwC (fun _ _ e => e) | exact TF.out.trans kwC (fun _ _ e => e) | exact TM.out.trans kwC (fun _ _ e => e) | exact ((Kept.refl (fun _ => False) w5).drew).trans kwC (fun _ _ e => e) | exact kwC)
                        have K2 := Lib.hid kwC
                        have B2 := Lib.hid bwC
                        clear kwC bwC
                        refine hKC.out _ _ ?_ (fun hHeld => ?_)
                        · first | exact DC.out _ (D20.out.2.mono fun _ _ e => e.1) | exact DC.out _ (T12.out.mono fun _ _ e => e.elim) | exact DC.out _ (TF.out.mono fun _ _ e => e.elim) | exact DC.out _ (TM.out.mono fun _ _ e => e.elim) | exact DC.out _ (T2.out.mono fun _ _ e => e.elim)
                        clear hKC KC
                        try simp only [Act.put, List.setIfInBounds_toArray, List.set_cons_zero, List.set_cons_succ]
                        refine wpAnyH_ready (rs := [12]) (by kernel_rfl) (by simp) ?_
                        refine held_cons 12 (o := _) rfl (fun KC hKC => ?_) AllReadyH.nil
                        rw [if_pos (by rfl)]
                        go_simp
                        try (rw [conv_row]; go_simp)
                        first | refine conv_abs (K := KC _) ?_ | refine conv_absD (K := KC _) ?_ | refine conv_absDD (K := KC _) ?_
                        intro wD kwD bwD
                        have T12 := Lib.hid (show Kept (fun _ => False) w5 wD from by first | exact T2.out.trans kwD (fun _ _ e => e) | exact TF.out.trans kwD (fun _ _ e => e) | exact ((Kept.refl (fun _ => False) w5).drew).trans kwD (fun _ _ e => e) | exact kwD)
                        have K12 := Lib.hid kwD
                        have B12 := Lib.hid bwD
                        clear kwD bwD
                        refine hKC.out _ _ ?_ (fun hHeld => ?_)
                        · first | exact DC.out _ (D20.out.2.mono fun _ _ e => e.1) | exact DC.out _ (T12.out.mono fun _ _ e => e.elim) | exact DC.out _ (TF.out.mono fun _ _ e => e.elim) | exact DC.out _ (TM.out.mono fun _ _ e => e.elim) | exact DC.out _ (T2.out.mono fun _ _ e => e.elim)
                        clear hKC KC
                        try simp only [Act.put, List.setIfInBounds_toArray, List.set_cons_zero, List.set_cons_succ]
                        refine wpAnyH_ready (rs := [13]) (by kernel_rfl) (by simp) ?_
                        refine held_cons 13 (o := _) rfl (fun KC hKC => ?_) AllReadyH.nil
                        go_simp
                        with_reducible refine Calls.mono (chgw_upd (k := fitB ky 2) (v := fitB vl V) CT5.out.1 CT5.out.2.1 CT5.out.2.2 (by first | exact T12.out | exact T2.out) (by first | exact B2.out | exact B2.out.kept K12.out (fun _ _ _ e => e) | exact (B2.out.kept KF.out (fun _ _ _ e => e)).kept K12.out (fun _ _ _ e => e) | exact ((B2.out.kept KM.out (fun _ _ _ e => e)).kept KF.out (fun _ _ _ e => e)).kept K12.out (fun _ _ _ e => e)) (by first | exact B12.out | exact B12.out.kept K2.out (fun _ _ _ e => e)) (fun b o e => by cases e; first | exact TF.out.size | exact T2.out.size)) ?_
                        rintro e1 w20 ⟨⟨rv, rfl⟩, d20, k20⟩
                        have D20 := Lib.hid (And.intro d20 k20)
                        clear d20 k20
                        dsimp only
                        refine hKC.out _ _ ?_ (fun hHeld => ?_)
                        · first | exact DC.out _ (D20.out.2.mono fun _ _ e => e.1) | exact DC.out _ (T12.out.mono fun _ _ e => e.elim) | exact DC.out _ (TF.out.mono fun _ _ e => e.elim) | exact DC.out _ (TM.out.mono fun _ _ e => e.elim) | exact DC.out _ (T2.out.mono fun _ _ e => e.elim)
                        clear hKC KC
                        try simp only [Act.put, List.setIfInBounds_toArray, List.set_cons_zero, List.set_cons_succ]
                        refine wpAnyH_done (by kernel_rfl) (NoPanic.normal ?_) _
                        gi_wp2_with fail
                        gi_meet
                        refine ⟨rfl, rfl, rfl, rfl, rfl, rfl, rfl, rfl, rfl, rfl, rfl, rfl, rfl, rfl, rfl, rfl, rfl, rfl, updP m (fitB ky 2) (fitB vl V) 0 P, fitB ky 2 :: A, D20.out.1, CW5.out.kept D20.out.2 (fun b hb => hb), fun k hk => .tail _ hk, chg_upd m _ _ 0 II.out.1.subP, ?_⟩
                        have := II.out.1.alen
                        rw [List.length_cons]
                        omega
                      ·
                        rw [if_pos (by rfl)]
                        go_simp
                        try (rw [conv_row]; go_simp)
                        first | refine conv_abs (K := KC _) ?_ | refine conv_absD (K := KC _) ?_ | refine conv_absDD (K := KC _) ?_
                        intro wD kwD bwD
                        have T12 := Lib.hid (show Kept (fun _ => False) w5 wD from by first | exact T2.out.trans kwD (fun _ _ e => e) | exact TF.out.trans kwD (fun _ _ e => e) | exact ((Kept.refl (fun _ => False) w5).drew).trans kwD (fun _ _ e => e) | exact kwD)
                        have K12 := Lib.hid kwD
                        have B12 := Lib.hid bwD
                        clear kwD bwD
                        refine hKC.out _ _ ?_ (fun hHeld => ?_)
                        · first | exact DC.out _ (D20.out.2.mono fun _ _ e => e.1) | exact DC.out _ (T12.out.mono fun _ _ e => e.elim) | exact DC.out _ (TF.out.mono fun _ _ e => e.elim) | exact DC.out _ (TM.out.mono fun _ _ e => e.elim) | exact DC.out _ (T2.out.mono fun _ _ e => e.elim)
                        clear hKC KC
                        try simp only [Act.put, List.setIfInBounds_toArray, List.set_cons_zero, List.set_cons_succ]
                        refine wpAnyH_ready (rs := [2]) (by kernel_rfl) (by simp) ?_
                        refine held_cons 2 (o := _) rfl (fun KC hKC => ?_) AllReadyH.nil
                        rw [if_pos (by rfl)]
                        go_simp
                        try (rw [conv_row]; go_simp)
                        first | refine conv_abs (K := KC _) ?_ | refine conv_absD (K := KC _) ?_ | refine conv_absDD (K := KC _) ?_
                        intro wC kwC bwC
                        have T2 := Lib.hid (show Kept (fun _ => False) w5 wC from by first | exact T12.out.trans kwC (fun _ _ e => e) | exact TF.out.trans kwC (fun _ _ e => e) | exact TM.out.trans kwC (fun _ _ e => e) | exact ((Kept.refl (fun _ => False) w5).drew).trans kwC (fun _ _ e => e) | exact kwC)
                        have K2 := Lib.hid kwC
                        have B2 := Lib.hid bwC
                        clear kwC bwC
                        refine hKC.out _ _ ?_ (fun hHeld => ?_)
                        · first | exact DC.out _ (D20.out.2.mono fun _ _ e => e.1) | exact DC.out _ (T12.out.mono fun _ _ e => e.elim) | exact DC.out _ (TF.out.mono fun _ _ e => e.elim) | exact DC.out _ (TM.out.mono fun _ _ e => e.elim) | exact DC.out _ (T2.out.mono fun _ _ e => e.elim)
                        clear hKC KC
                        try simp only [Act.put, List.setIfInBounds_toArray, List.set_cons_zero, List.set_cons_succ]
                        refine wpAnyH_ready (rs := [13]) (by kernel_rfl) (by simp) ?_
                        refine held_cons 13 (o := _) rfl (fun KC hKC => ?_) AllReadyH.nil
                        go_simp
                        with_reducible refine Calls.mono (chgw_upd (k := fitB ky 2) (v := fitB vl V) CT5.out.1 CT5.out.2.1 CT5.out.2.2 (by first | exact T12.out | exact T2.out) (by first | exact B2.out | exact B2.out.kept K12.out (fun _ _ _ e => e) | exact (B2.out.kept KF.out (fun _ _ _ e => e)).kept K12.out (fun _ _ _ e => e) | exact ((B2.out.kept KM.out (fun _ _ _ e => e)).kept KF.out (fun _ _ _ e => e)).kept K12.out (fun _ _ _ e => e)) (by first | exact B12.out | exact B12.out.kept K2.out (fun _ _ _ e => e)) (fun b o e => by cases e; first | exact TF.out.size | exact T2.out.size)) ?_
                        rintro e1 w20 ⟨⟨rv, rfl⟩, d20, k20⟩
                        have D20 := Lib.hid (And.intro d20 k20)
                        clear d20 k20
                        dsimp only
                        refine hKC.out _ _ ?_ (fun hHeld => ?_)
                        · first | exact DC.out _ (D20.out.2.mono fun _ _ e => e.1) | exact DC.out _ (T12.out.mono fun _ _ e => e.elim) | exact DC.out _ (TF.out.mono fun _ _ e => e.elim) | exact DC.out _ (TM.out.mono fun _ _ e => e.elim) | exact DC.out _ (T2.out.mono fun _ _ e => e.elim)
                        clear hKC KC
                        try simp only [Act.put, List.setIfInBounds_toArray, List.set_cons_zero, List.set_cons_succ]
                        refine wpAnyH_done (by kernel_rfl) (NoPanic.normal ?_) _
                        gi_wp2_with fail
                        gi_meet
                        refine ⟨rfl, rfl, rfl, rfl, rfl, rfl, rfl, rfl, rfl, rfl, rfl, rfl, rfl, rfl, rfl, rfl, rfl, rfl, updP m (fitB ky 2) (fitB vl V) 0 P, fitB ky 2 :: A, D20.out.1, CW5.out.kept D20.out.2 (fun b hb => hb), fun k hk => .tail _ hk, chg_upd m _ _ 0 II.out.1.subP, ?_⟩
                        have := II.out.1.alen
                        rw [List.length_cons]
                        omega
              · have hch' : ¬ (i : Int) < (n' : Int) := by omega
                clear d0
                gi_wp2_with fail
                gi_meet
                refine ⟨rfl, rfl, rfl, rfl, rfl, rfl, rfl, rfl, rfl, rfl, rfl, rfl, rfl, rfl, rfl, rfl, rfl, rfl, P, A, WQ.out.2.1, WQ.out.1, fun k hk => hk, II.out.1.subP, ?_⟩
                have := II.out.1.alen
                omega
            case rest =>
              obtain ⟨hu142, hu143, hu144, hu145, hu146, hu147, hu148, hu149, hu150, hu151, hu152, hu153, hu154, hu155, hu156, hu157, hu158, hu159, P', A', hT', hW', hA1, hA2, hA3⟩ := hcut
              subst hu142; subst hu143; subst hu144; subst hu145; subst hu146; subst hu147; subst hu148; subst hu149; subst hu150; subst hu151; subst hu152; subst hu153; subst hu154; subst hu155; subst hu156; subst hu157; subst hu158; subst hu159
              have CW' := Lib.hid (And.intro hW' (And.intro hT' (And.intro hA1 (And.intro hA2 hA3))))
              clear hT' hW' hA1 hA2 hA3 d0
              obtain ⟨nb, hnb⟩ : ∃ nb, wc.heap.size = nb := ⟨_, rfl⟩
              obtain ⟨wm, hwm⟩ : ∃ wm, wc.alloc (.map #[] 0) = wm := ⟨_, rfl⟩
              have hmk2 : (Instr.makeMap 75 none).run Tryz.prog wc = .ok (.map (some nb)) wm := by rw [← hnb, ← hwm]; rfl
              have MN := Lib.hid (show MapB wm nb (fun _ => none) ∧ Kept (fun _ => False) wc wm ∧ wm.heap.size = nb + 1 ∧ wc.heap.size = nb from ⟨by rw [← hwm, ← hnb]; exact mapB_new wc, by rw [← hwm]; exact Kept.one_alloc _ _, by rw [← hwm, ← hnb]; simp, hnb⟩)
              clear hnb hwm
              gi_wp2_with (rw [hmk2]; simp only [Result.andThen]; go_simp)
              obtain ⟨ncb, hncb⟩ : ∃ ncb, wm.heap.size = ncb := ⟨_, rfl⟩
              obtain ⟨wn, hwn⟩ : ∃ wn, wm.alloc (.cells #[.map (some nb)] 75) = wn := ⟨_, rfl⟩
              have kmn : Kept (fun _ => False) wm wn := by rw [← hwn]; exact Kept.one_alloc _ _
              have NB := Lib.hid (show Box wn ncb (.map (some nb)) ∧ MapB wn nb (nowG g []) ∧ Kept (fun _ => False) wc wn ∧ ncb = nb + 1 ∧ wc.heap.size = nb from ⟨by rw [← hwn, ← hncb]; exact Box.new _ _ _, MN.out.1.kept kmn (fun e => e), MN.out.2.1.trans kmn (fun _ _ e => e), by have := MN.out.2.2.1; omega, MN.out.2.2.2⟩)
              rw [hwn, hncb]
              clear hncb hwn hmk2 kmn MN
              have CWN := Lib.hid (And.intro (CW'.out.1.keep NB.out.2.2.1) (CW'.out.2.1.keep NB.out.2.2.1))
              obtain ⟨F2, hses2, hF2⟩ := CW'.out.2.1
              obtain ⟨iv2, E2, F3, hT2, hPE2, hF3⟩ := hses2.keep NB.out.2.2.1
              have HT2 := Lib.hid (And.intro hT2 (And.intro hPE2 (show ∀ b, Tfp bt E2 F3 b → b < nb ∧ W.heap.size ≤ b ∧ b ≠ sb from fun b hb => by have h1 := hF2 b (hF3 b hb); have h2 := NB.out.2.2.2.2; exact ⟨by omega, h1.1, fun e => h1.2.2 (.inr (.inl e))⟩)))
              refine callsIn_WR.2 ((keys_any hT2).mono ?_)
              rintro e w6 ⟨kb, rfl, hky, k6, hkb⟩
              have hnf := run_eq_nilFunc (P := Tryz.prog) w6 (.func 46) #[] #[.pointer (some ⟨kb, 0, none⟩)] Tryz.underlying72
              have H6 := Lib.hid (And.intro hky (And.intro k6 hkb))
              clear hT2 hPE2 hF3 hses2 hF2 hky k6 hkb
              gi_wp2_with fail
              obtain ⟨hky, k6, hkb⟩ := H6.out
              have nb6 := NB.out.2.1.kept k6 (fun e => e)
              have hwnl : nb < wn.heap.size := NB.out.2.1.lt
              have hitr := keys1_any kb bt m iv2 E2 F3
              refine wpW_rangeG hitr rfl keys_enters (fun _ => by rfl) (fun (pre : List ByteArray) U W' => MapB W' nb (nowG g pre) ∧ U nb) (fun _ _ _ => False) (fun b => b = nb)
                (fun pre U W W' h k => ⟨h.1.kept k (fun e => e h.2), h.2⟩) (fun _ _ _ _ h _ => h) ?_ ?_ ?_ hky (fun W W' h k => h.kept k (fun b hb e => e hb)) ⟨nb6, rfl⟩ ?_ ?_ (fun _ _ _ _ h => h.elim)
              · rintro b rfl (h | h)
                · omega
                · have := (HT2.out.2.2 b h).1
                  omega
              · exact hky.dlt
              · rintro b rfl
                exact nb6.lt
              · intro l pre k rest U' W7 hitems hi hkw hlt' hD' hRd' hl hlD hlW hlw hUU
                have LK := Lib.hid (And.intro hlt' (And.intro hl (And.intro hlW (And.intro hlw (And.intro hkw hi)))))
                clear hi hlt' hD' hRd' hlD hkw hitems hnf hl hlw hUU hlW hky k6 hkb hitr nb6 hwnl
                simp only [List.zip_toArray, List.zip_cons_cons, List.zip_nil_left, List.foldl_toArray', List.foldl_cons, List.foldl_nil, List.setIfInBounds_toArray, List.set_cons_succ, List.set_cons_zero]
                gi_wp2_with (rw [Oper.semAt_eq _ _ _ (fun c h => by cases h)]; go_simp; try go_bits)
                refine ⟨trivial, ?_⟩
                intro W8 kl zl
                clear zl
                obtain ⟨hlt', hl, hlW, hlw, hkw, hi⟩ := LK.out
                have hi8 : MapB W8 nb (nowG g pre) ∧ U' nb := ⟨hi.1.kept kl (fun e => hl (by have e : nb = l := e; rw [← e]; exact hi.2)), hi.2⟩
                have kn8 : Kept (fun b => b = nb ∨ b = l) wn W8 := ((H6.out.2.1.mono fun _ _ e => e.elim).trans hkw (fun _ _ e => .inl e)).trans kl (fun _ _ e => .inr e)
                have hz6 := H6.out.2.1.size
                have ncb8 := NB.out.1.kept kn8 (fun e => e.elim (fun e => by have := NB.out.2.2.2.1; omega) (fun e => by have := NB.out.1.lt; omega))
                have sb8 := CWN.out.1.sbox.kept kn8 (fun e => e.elim (fun e => by have := CW'.out.1.sbox.lt; have := NB.out.2.2.2.2; omega) (fun e => by have := CWN.out.1.sbox.lt; omega))
                have mb8 := CWN.out.1.map.kept kn8 (fun e => e.elim (fun e => by have := CW'.out.1.map.lt; have := NB.out.2.2.2.2; omega) (fun e => by have := CWN.out.1.map.lt; omega))
                have hcs := sb8.cell
                have hcn := ncb8.cell
                have hlk := run_lookupB (P := Tryz.prog) Tryz.underlying75 Tryz.underlying9 zbool mb8 k
                obtain ⟨w9, hup, hmap9, kup, hz9⟩ := run_updateB (P := Tryz.prog) Tryz.underlying75 Tryz.underlying9 hi8.1 k ((g k).getD false)
                have hmap9 := hmap9.congr (fun j => nowG_snoc g pre k j)
                have B8 := Lib.hid (And.intro hi8.2 (And.intro hmap9 (And.intro kup kl)))
                generalize (g k).getD false = vv at hlk hup
                clear hlt' hl hlW hlw hkw hi hi8 kn8 hz6 ncb8 sb8 mb8 hmap9 kup kl hz9
                gi_wp2_with (first | (rw [hup]; simp only [Result.andThen]; go_simp; done) | (rw [hlk]; simp only [Result.andThen]; go_simp; done) | (rw [Oper.semAt_eq _ _ _ (fun c h => by cases h)]; go_simp; try go_bits))
                obtain ⟨hUm, hmap9, kup, kl⟩ := B8.out
                obtain ⟨hlt', hl, hlW, hlw, hkw, hi⟩ := LK.out
                obtain ⟨e1, e2, e3, e4⟩ := round_plain (U := U') kl hl hlt' hlW (kup.mono fun b _ e => by have e : b = nb := e; rw [e]; exact hUm)
                exact ⟨e1, _, e2, e3, e4, hmap9, hUm⟩
              · intro items dk2 U3 W9 hfull hi kW hR hmkd hdkl hdkU hUU hUn hUl
                have kn9 : Kept (fun b => b = nb) wn W9 := (k6.mono fun _ _ e => e.elim).trans kW (fun _ _ e => e)
                have ncb9 := NB.out.1.kept kn9 (fun e => by have e : ncb = nb := e; have := NB.out.2.2.2.1; omega)
                have sb9 := CWN.out.1.sbox.kept kn9 (fun e => by have e : sb = nb := e; have := CW'.out.1.sbox.lt; have := NB.out.2.2.2.2; omega)
                have hcn := ncb9.cell
                have hcs := sb9.cell
                have hfs := sb9.frozen
                have E9 := Lib.hid (And.intro hfull (And.intro hi (And.intro kn9 (And.intro sb9 (And.intro hmkd (show wn.heap.size ≤ dk2 from Nat.le_trans k6.size hdkl))))))
                have hwi : wrap64 ((i : Int) + 1) = (i : Int) + 1 := IntWalk.wrap64_in _ (by omega)
                clear hfull hi kW hR hmkd hdkl hdkU hUU hUn hUl hky k6 hkb hitr nb6 hwnl hnf kn9 ncb9 sb9
                gi_wp2_with fail
                obtain ⟨hfull, hi, kn9, sb9, hmkd, hdkl⟩ := E9.out
                have ks := Kept.one_set W9 ⟨sb, 0, none⟩ (.map (some nb))
                have hnb := NB.out.2.2.2.2
                have hsbw := CW'.out.1.sbox.lt
                have hnbw := NB.out.2.1.lt
                have hsz := NB.out.2.2.1.size
                have kcs : Kept (fun b => b = sb ∨ wc.heap.size ≤ b) wc (W9.setCell ⟨sb, 0, none⟩ (.map (some nb))) := ((NB.out.2.2.1.mono (S' := fun b => b = sb ∨ wc.heap.size ≤ b) fun _ _ e => e.elim).trans kn9 (fun b hb e => .inr (by have e : b = nb := e; omega))).trans ks (fun b hb e => .inl e)
                have hmap : MapB (W9.setCell ⟨sb, 0, none⟩ (.map (some nb))) nb (nowG g (keysP P')) := by
                  have h := hi.1.kept ks (fun e => by have e : nb = sb := e; omega)
                  rw [hfull, HT2.out.2.1] at h
                  exact h
                have eW := CW'.out.1.next (dk := dk2) kcs (sb9.set _) hmap (by omega) ((ks.block dk2 (Array.getElem?_eq_some_iff.1 hmkd).1 (fun e => by have e : dk2 = sb := e; omega)).trans hmkd) (by omega) (by omega)
                have eT := CW'.out.2.1.next (dk := dk2) (nb := nb) kcs (by omega) (by omega)
                have eI := chg_next II.out.1 HND.out (HLB.out.1.trans HLB.out.2.2) HBN.out CW'.out.2.2.1 CW'.out.2.2.2.1 CW'.out.2.2.2.2 (fun k hk => nowG_has hk)
                rw [← HTB.out] at eI
                have hdlen := WW.out.2.2
                refine ⟨dk2 :: dl, ⟨i + 1, P', Tj, A', nowG g (keysP P'), nb, ta', tc', by first | rfl | (dsimp only; rw [hwi]; rfl), rfl, rfl, eI, eW, eT, by rw [List.length_cons, hdlen]⟩, ?_, by simp, by rw [List.length_cons, hdlen]; omega⟩
                kernel_rfl
end Go.Proofs.YtjkgimloafpipaaGreat
