/- ScanTells, walked. -/
import Derived.Test.YtjkgimloafpipaaGreatKeysStopsWalk
import Derived.Test.YtjkgimloafpipaaGreatRBatch
import Derived.Test.YtjkgimloafpipaaGreatThree
namespace Go.Proofs.YtjkgimloafpipaaGreat
set_option linter.unusedVariables false
set_option linter.unusedSimpArgs false
open Go.RowKit Go.MapKept Go.Deep

/-- law11.same answers true of the same pairs. -/
theorem same11_any {W : World} {a b : Option Addr} {n c c' : Nat} {L : List Pr} (hl : L.length = n) (hn : n ≤ 1000000) (h1 : W.ownsRow 0 50 2 (.slice a n c) n (prV L)) (h2 : W.ownsRow 0 69 2 (.slice b n c') n (prV L)) :
    Calls Tryz.prog 28 #[.slice a n c, .slice b n c'] W fun e w' => e = .returned (.bool true) ∧ Kept (fun _ => False) W w' := by
  have H := Lib.hid (And.intro h1 (And.intro h2 hl))
  clear h1 h2 hl
  go_enter Tryz.func28, Tryz.ntmps28
  go_wp2_with fail
  go_loopw [5] (fun i wr => ∃ k : Nat, k ≤ n ∧ i = .int .i64 (k : Int) ∧ Kept (fun _ => False) W wr) (fun i _ => n - (intOf i).toNat)
  case atStart => exact ⟨0, Nat.zero_le _, rfl, Kept.refl _ _⟩
  case round =>
    obtain ⟨k, hk, rfl, hkr⟩ := hrel
    by_cases hlt : k < n
    · obtain ⟨p, hp⟩ : ∃ p, L[k]? = some p := ⟨_, List.getElem?_eq_getElem (by rw [H.out.2.2]; exact hlt)⟩
      have r1 := ownsRow_kept H.out.1 hkr (fun _ _ e => e)
      have r2 := ownsRow_kept H.out.2.1 hkr (fun _ _ e => e)
      obtain ⟨a', c1, e, hg, -, -⟩ := own_form r1
      cases e
      obtain ⟨g1, rfl⟩ := hg (by omega)
      obtain ⟨b', c2, e, hg2, -, -⟩ := own_form r2
      cases e
      obtain ⟨g2, rfl⟩ := hg2 (by omega)
      have d0 := own_cell r1 (prV_at hp).1
      have d1 := own_cell r1 (prV_at hp).2
      have d2 := own_cell r2 (prV_at hp).1
      have d3 := own_cell r2 (prV_at hp).2
      have b1 := bytes_self p.1
      have b2 := bytes_self p.2
      have n1 : (k : Int) < (n : Int) := by omega
      have KR := Lib.hid hkr
      clear r1 r2 hg hg2 hp hkr
      go_wp2_with fail
      go_region
      go_wp2_with fail
      go_roundw
      case rel => exact ⟨k + 1, by omega, by go_num, KR.out.drew⟩
      case measure => (simp [intOf] <;> omega)
    · have KR := Lib.hid hkr
      clear hkr
      go_wp2_with fail
      go_ret
      exact ⟨rfl, KR.out⟩
/-- What the rounds know: how many keys were told. -/
def TellI (ib : Nat) (pre : List ByteArray) (U : Nat → Prop) (W : World) : Prop := CountO ib pre.length U W
set_option maxRecDepth 100000 in
set_option maxHeartbeats 4000000 in
theorem scanTells_any (kind key value most : Int) (a : Option Addr) (n c : Nat) (ss : Nat → Pr) (after : ByteArray) (first : Bool) (x : Int) (W : World) (hs : Puts W a n ss) (hn : n ≤ 9223372036854775807) (haft : after.size ≤ 9223372036854775807) :
    Calls Tryz.prog 9 #[.int .i64 kind, .int .i64 key, .int .i64 value, .int .i64 most, .slice a n c, .string after, .bool first, .int .i64 x] W fun e w' => e = .returned (.bool true) ∧ Kept (fun _ => False) W w' := by
  have HS := Lib.hid hs
  clear hs
  obtain ⟨M, hM⟩ : ∃ M, M = min after.size 20 := ⟨_, rfl⟩
  have hmin : min (after.size : Int) 20 = (M : Int) := by omega
  have hM1 : (M : Int) ≤ after.size := by omega
  have h0 : (0 : Int) ≤ (M : Int) := by omega
  obtain ⟨Z, hZ⟩ : ∃ Z, min x 100 = Z := ⟨_, rfl⟩
  clear hM
  refine callsIn_WR (ro := none) (n := 0).1 (callsIn_of_wp_marks Tryz.func9 rfl trivial ?_ rfl)
  simp only [Tryz.ntmps9, List.size_toArray, List.length_cons, List.length_nil, Nat.reduceAdd, Nat.reduceSub, Array.replicate_succ, Array.replicate_zero, List.push_toArray, List.append_toArray, List.nil_append, List.cons_append]
  gi_wp2_with fail
  obtain ⟨W1, hW1⟩ : ∃ W1, W.alloc (.cells #[.bool false] 4) = W1 := ⟨_, rfl⟩
  obtain ⟨rb, hrb⟩ : ∃ rb, W.heap.size = rb := ⟨_, rfl⟩
  have RB := Lib.hid (show Box W1 rb (.bool false) ∧ Kept (fun _ => False) W W1 ∧ W.heap.size ≤ rb from ⟨by rw [← hW1, ← hrb]; exact Box.new _ _ _, by rw [← hW1]; exact Kept.one_alloc _ _, by omega⟩)
  rw [hW1, hrb]
  clear hW1 hrb
  refine callsIn_WR.2 ((shown_any W1).mono ?_)
  rintro e w1 ⟨rfl, k1⟩
  have K1 := Lib.hid k1
  have MD := Lib.hid (made11_any kind key value most a n c ss w1 (fun i hi => by
    obtain ⟨b, o, e, hb, hp⟩ := HS.out i hi
    have kk := RB.out.2.1.trans k1 (fun _ _ e => e)
    exact ⟨b, o, e, Nat.lt_of_lt_of_le hb kk.size, hp.kept hb kk (fun e => e)⟩) hn)
  clear k1
  gi_wp2_with fail
  refine callsIn_WR.2 (MD.out.mono ?_)
  rintro e w2 ⟨bt, br, P, rfl, hd⟩
  have hmr := (small_right kind key value most)
  generalize smallM kind key value most = m at hd hmr
  obtain ⟨Ft, Fr, hses, hrses, -⟩ := hd.ex
  obtain ⟨lv, Er, hRT, hkr, -⟩ := hrses
  have SE := Lib.hid (And.intro hses (And.intro hRT hkr))
  have KW2 := Lib.hid (show Kept (fun _ => False) W w2 ∧ Box w2 rb (.bool false) from ⟨(RB.out.2.1.trans K1.out (fun _ _ e => e)).trans hd.back (fun _ _ e => e), (RB.out.1.kept K1.out (fun e => e)).kept hd.back (fun e => e)⟩)
  have HMR := Lib.hid hmr
  obtain ⟨af, haf⟩ : ∃ af, after.extract 0 M = af := ⟨_, rfl⟩
  obtain ⟨L, hL⟩ : ∃ L, aboveP af first P = L := ⟨_, rfl⟩
  have hL2 : aboveP af first (kvs Er) = L := by rw [← hL, hkr]; unfold aboveP; rw [pairsP_ord m hses.nodup]
  have HL := Lib.hid (And.intro hL hL2)
  obtain ⟨S0, hS0⟩ : ∃ S0, snapB (ordP m P) = S0 := ⟨_, rfl⟩
  have HS0 := Lib.hid hS0
  have HAF := Lib.hid haf
  clear MD hd hses hRT hkr hmr haf hL hL2 hS0
  gi_wp2_with fail
  rw [HAF.out]
  refine callsIn_WR.2 ((rsnap_any SE.out.2.1).mono ?_)
  rintro e w3 ⟨rfl, k3⟩
  rw [SE.out.2.2, HS0.out]
  have K3 := Lib.hid k3
  clear k3
  gi_wp2_with fail
  refine callsIn_WR.2 ((ses_batch (SE.out.1.keep K3.out) af first Z).mono ?_)
  rintro e w4 ⟨sv1, rfl, hr1, k4⟩
  rw [HL.out.1] at hr1 ⊢
  obtain ⟨X, hX⟩ : ∃ X, (batchP Z L).1 = X := ⟨_, rfl⟩
  obtain ⟨mb, hmb⟩ : ∃ mb, (batchP Z L).2 = mb := ⟨_, rfl⟩
  rw [hX] at hr1
  rw [hmb]
  obtain ⟨a1, c1, rfl⟩ := hr1.form
  obtain ⟨NX, hNX⟩ : ∃ NX, X.length = NX := ⟨_, rfl⟩
  rw [hNX]
  have H4 := Lib.hid (And.intro hr1 (And.intro (K3.out.trans k4 (fun _ _ e => e)) (And.intro hX (And.intro hmb hNX))))
  clear hr1 k4 hX hmb hNX
  gi_wp2_with fail
  refine callsIn_WR.2 ((rbatch_any (SE.out.2.1.keep H4.out.2.1) af first Z).mono ?_)
  rintro e w5 ⟨sv2, rfl, hr2, -, k5⟩
  rw [HL.out.2, H4.out.2.2.1] at hr2
  rw [HL.out.2, H4.out.2.2.2.1]
  obtain ⟨a2, c2, rfl, -⟩ := own_form hr2
  rw [H4.out.2.2.2.2] at hr2 ⊢
  have H5 := Lib.hid (And.intro hr2 (And.intro k5 (H4.out.2.1.trans k5 (fun _ _ e => e))))
  clear hr2 k5
  gi_wp2_with fail
  refine callsIn_WR.2 ((rbatch_any (SE.out.2.1.keep H5.out.2.2) af first 1).mono ?_)
  rintro e w6 ⟨sv3, rfl, hr3, -, k6⟩
  rw [HL.out.2] at hr3 ⊢
  generalize (batchP 1 L).2 = mc
  obtain ⟨a3, c3, rfl, hg3, -⟩ := own_form hr3
  have H6 := Lib.hid (And.intro hr3 (And.intro k6 (And.intro hg3 (H5.out.2.2.trans k6 (fun _ _ e => e)))))
  clear hr3 k6 hg3
  gi_wp2_with fail
  refine callsIn_WR.2 ((ses_next (SE.out.1.keep H6.out.2.2.2) af first).mono ?_)
  rintro e w7 ⟨rfl, k7⟩
  rw [HL.out.1]
  have H7 := Lib.hid (And.intro k7 (H6.out.2.2.2.trans k7 (fun _ _ e => e)))
  have hP12 : P.length ≤ 12 := by have := SE.out.1.len; have := HMR.out.2.2.2; omega
  have SAME := Lib.hid (same11_any (W := w7) (n := NX) H4.out.2.2.2.2 (by
    have h1 := H4.out.2.2.2.2
    rw [← H4.out.2.2.1] at h1
    unfold batchP at h1
    rw [List.length_take] at h1
    have h2 := aboveP_len af first P
    rw [HL.out.1] at h2
    omega) (by
      have h := ownsRow_kept H4.out.1.1 ((H5.out.2.1.trans H6.out.2.1 (fun _ _ e => e)).trans k7 (fun _ _ e => e)) (fun _ _ e => e)
      rwa [H4.out.2.2.2.2] at h) (ownsRow_kept H5.out.1 (H6.out.2.1.trans k7 (fun _ _ e => e)) (fun _ _ e => e)))
  clear k7
  gi_wp2_with fail
  refine callsIn_WR.2 (SAME.out.mono ?_)
  rintro e w8 ⟨rfl, k8⟩
  have H8 := Lib.hid (And.intro k8 (H7.out.2.trans k8 (fun _ _ e => e)))
  clear k8 SAME
  have RP := Lib.hid (rpairs_any (SE.out.2.1.keep H8.out.2))
  cases L with
  | nil =>
    have e1 : batchP 1 ([] : List Pr) = ([], false) := rfl
    simp only [e1, List.length_nil, nextP]
    gi_wp2_with fail
    refine callsIn_WR.2 (RP.out.mono ?_)
    rintro e w9 ⟨sv, rfl, hrow, -, k9⟩
    rw [show pairsP (kvs Er) = pairsP P by rw [SE.out.2.2, pairsP_ord m SE.out.1.nodup]] at hrow
    obtain ⟨pa, pc, rfl, -⟩ := own_form hrow
    obtain ⟨PL, hPL⟩ : ∃ PL, pairsP P = PL := ⟨_, rfl⟩
    obtain ⟨NP, hNP⟩ : ∃ NP, PL.length = NP := ⟨_, rfl⟩
    rw [hPL, hNP] at hrow
    have e9 : (pairsP (kvs Er)).length = NP := by rw [SE.out.2.2, pairsP_ord m SE.out.1.nodup, hPL, hNP]
    try rw [e9]
    try rw [hPL, hNP]
    have hNP12 : NP ≤ 12 := by rw [← hNP, ← hPL, pairsP_len]; exact hP12
    have HPL := Lib.hid (And.intro hPL hNP)
    obtain ⟨pb, hpb⟩ : ∃ pb, w9.heap.size = pb := ⟨_, rfl⟩
    obtain ⟨w10, hw10⟩ : ∃ w10, w9.alloc (.cells #[.slice pa NP pc] 63) = w10 := ⟨_, rfl⟩
    obtain ⟨w11, hw11⟩ : ∃ w11, w10.alloc (.cells #[.int .i64 0] 3) = w11 := ⟨_, rfl⟩
    have hz10 : w10.heap.size = pb + 1 := by rw [← hw10, ← hpb]; simp
    have k911 : Kept (fun _ => False) w9 w11 := by rw [← hw11, ← hw10]; exact (Kept.one_alloc _ _).alloc _
    have bp11 : Box w11 pb (.slice pa NP pc) := by rw [← hw11, ← hw10, ← hpb]; exact (Box.new _ _ _).alloc _
    have bi11 : Box w11 (pb + 1) (.int .i64 0) := by rw [← hw11, ← hz10]; exact Box.new _ _ _
    have K211 := Lib.hid ((H8.out.2.trans k9 (fun _ _ e => e)).trans k911 (fun _ _ e => e))
    have B11 := Lib.hid (And.intro bp11 (And.intro bi11 (And.intro (ownsRow_kept hrow k911 (fun _ _ e => e)) (show w2.heap.size ≤ pb from by rw [← hpb]; exact (H8.out.2.trans k9 (fun _ _ e => e)).size))))
    have hown : ∀ b, (Value.slice pa NP pc).ownBlock = some b → b < pb := fun b e => by rw [← hpb]; exact (hrow.lt b e).2
    have HOWN := Lib.hid hown
    have HZ11 := Lib.hid (show w11.heap.size = pb + 2 from by rw [← hw11]; simp [hz10])
    have HW11 := Lib.hid (And.intro hw10 (And.intro hw11 hpb))
    clear hrow hPL hNP e9 hz10 k911 bp11 bi11 k9 hw10 hw11 hpb hown
    gi_wp2_with fail
    try rw [HW11.out.2.2]
    try rw [HW11.out.1]
    try rw [HW11.out.2.1]
    obtain ⟨iv, E, F, hT, hPE, hF⟩ := SE.out.1.bound
    have hT11 := hT.kept K211.out (fun _ _ e => e)
    have HT := Lib.hid (And.intro hT11 (And.intro hPE (show ∀ b, Tfp bt E F b → b < w2.heap.size from fun b hb => (hF b hb).2)))
    clear hT hPE hF
    refine callsIn_WR.2 ((keys_any hT11).mono ?_)
    rintro e w12 ⟨kb, rfl, hky, k12, hkb⟩
    have hnf := run_eq_nilFunc (P := Tryz.prog) w12 (.func 46) #[] #[.pointer (some ⟨kb, 0, none⟩)] Tryz.underlying72
    have H12 := Lib.hid (And.intro hky (And.intro k12 hkb))
    clear hT11 hky k12 hkb
    gi_wp2_with fail
    obtain ⟨hky, k12, hkb⟩ := H12.out
    have hz12 := k12.size
    have hz11 := HZ11.out
    have hb2 := B11.out.2.2.2
    obtain ⟨ib, hib⟩ : ∃ ib, pb + 1 = ib := ⟨_, rfl⟩
    try rw [hib]
    have HIB := Lib.hid hib
    have bi12 : Box w12 ib (.int .i64 0) := by rw [← hib]; exact B11.out.2.1.kept k12 (fun e => e)
    obtain ⟨KS, hKS⟩ : ∃ KS, keysP (kvs E) = KS := ⟨_, rfl⟩
    have hKP : KS = PL.map (·.1) := by rw [← hKS, HT.out.2.1]; unfold keysP; rw [HPL.out.1]
    have HKS := Lib.hid hKP
    have hit := keys1_any kb bt m iv E F
    rw [hKS] at hit
    clear hKS hKP
    refine wpW_rangeG hit rfl keys_enters (fun _ => by rfl) (fun (pre : List ByteArray) U W' => CountO ib pre.length U W') (fun _ _ _ => False) (fun b => b = ib)
      (fun pre U W W' h k => CountO.kept h k) (fun _ _ _ _ h _ => h) ?_ ?_ ?_ hky (fun W W' h k => h.kept k (fun b hb e => e hb)) ⟨bi12, rfl⟩ ?_ ?_ (fun _ _ _ _ h => h.elim)
    · rintro b hb (h | h)
      · omega
      · have := HT.out.2.2 b h
        omega
    · exact hky.dlt
    · intro b hb
      omega
    · intro l pre k rest U' W7 hitems hi hkw hlt' hD' hRd' hl hlD hlW hlw hUU
      have LK := Lib.hid (And.intro hlt' (And.intro hl (And.intro hkw (And.intro hlw (And.intro hi (And.intro hlW hitems))))))
      clear hi hlt' hD' hRd' hlD hkw hitems hnf hl hlw hUU hlW hky k12 hkb hz12 hz11 hb2 bi12 hib hit
      simp only [List.zip_toArray, List.zip_cons_cons, List.zip_nil_left, List.foldl_toArray', List.foldl_cons, List.foldl_nil, List.setIfInBounds_toArray, List.set_cons_succ, List.set_cons_zero]
      gi_wp2_with (rw [Oper.semAt_eq _ _ _ (fun c h => by cases h)]; go_simp; try go_bits)
      refine ⟨trivial, ?_⟩
      intro W8 kl zl
      clear zl
      have hi8 := CountO.kept LK.out.2.2.2.2.1 (kl.mono fun b _ e h => by subst e; exact LK.out.2.1 h)
      obtain ⟨j, hj⟩ : ∃ j, pre.length = j := ⟨_, rfl⟩
      rw [hj] at hi8
      have hjN : j < NP := by
        rw [← HPL.out.2, ← List.length_map (f := fun p : Pr => p.1), ← HKS.out, ← LK.out.2.2.2.2.2.2, ← hj]
        simp <;> omega
      obtain ⟨p9, hp9⟩ : ∃ p9, PL[j]? = some p9 := ⟨_, List.getElem?_eq_getElem (by rw [HPL.out.2]; exact hjN)⟩
      have hpk : p9.1 = k := by
        have h1 : KS[j]? = some k := by rw [← LK.out.2.2.2.2.2.2, ← hj]; simp
        rw [HKS.out, List.getElem?_map, hp9] at h1
        exact Option.some.inj h1
      have k118 : Kept (fun b => b = ib ∨ b = l) w11 W8 := ((H12.out.2.1.mono fun _ _ e => e.elim).trans LK.out.2.2.1 (fun b hb e => .inl e)).trans kl (fun b hb e => .inr e)
      have hll : w11.heap.size ≤ l := Nat.le_trans H12.out.2.1.size LK.out.2.2.2.1
      have hz := HZ11.out
      have hibb := HIB.out
      have bp8 := B11.out.1.kept k118 (fun e => by omega)
      have row8 := ownsRow_kept B11.out.2.2.1 k118 (fun b e => by have := HOWN.out b e; omega)
      obtain ⟨pa', pc', e, hg, -, -⟩ := own_form row8
      obtain ⟨g9, hg9⟩ := hg (by omega)
      cases e
      subst hg9
      have d9 := own_cell row8 (prV_at hp9).1
      rw [hpk] at d9
      have b9 := bytes_self k
      have hcp := bp8.cell
      have hci := hi8.1.cell
      have hfi := hi8.1.frozen
      have n1 : (j : Int) < (NP : Int) := by omega
      have n2 : IntKind.i64.wrap ((j : Int) + 1) = (j : Int) + 1 := IntWalk.i64_in _ (by omega)
      have B8 := Lib.hid (And.intro hi8 (And.intro kl hj))
      clear hi8 kl hj hjN hp9 hpk k118 hll hz hibb bp8 row8 hg
      gi_wp2_with (rw [Oper.semAt_eq _ _ _ (fun c h => by cases h)]; go_simp; try go_bits)
      obtain ⟨hi8, kl, hj⟩ := B8.out
      have kr : Kept U' W8 (W8.setCell ⟨ib, 0, none⟩ (.int .i64 ((j : Int) + 1))) := Kept.mono (Kept.one_set W8 ⟨ib, 0, none⟩ _) (fun b _ e => by have e : b = ib := e; rw [e]; exact hi8.2)
      obtain ⟨e1, e2, e3, e4⟩ := round_plain (U := U') kl LK.out.2.1 LK.out.1 LK.out.2.2.2.2.2.1 kr
      refine ⟨e1, _, e2, e3, e4, ?_, hi8.2⟩
      rw [List.length_append, hj]
      exact hi8.1.set _
    · intro items dk U3 W9 hfull hi kW hR hmk hdkl hdkU hUU hUn hUl
      have hlen : items.length = NP := by rw [hfull, HKS.out, List.length_map, HPL.out.2]
      rw [hlen] at hi
      have k119 : Kept (fun b => b = ib) w11 W9 := (k12.mono fun _ _ e => e.elim).trans kW (fun b hb e => e)
      have bp9 := B11.out.1.kept k119 (fun e => by omega)
      have hcp := bp9.cell
      have hci := hi.1.cell
      have k29 : Kept (fun _ => False) w2 W9 := K211.out.trans k119 (fun b hb e => by omega)
      have br9 := KW2.out.2.kept k29 (fun e => e)
      have SN := Lib.hid (ses_snap (SE.out.1.keep k29))
      have FIN := Lib.hid (show Box W9 rb (.bool false) ∧ Kept (fun _ => False) W W9 ∧ W9.heap[dk]? = some (.deferred (some [])) ∧ rb ≠ dk ∧ W.heap.size ≤ rb ∧ W.heap.size ≤ dk from
        ⟨br9, KW2.out.1.trans k29 (fun _ _ e => e), hmk, by have := KW2.out.2.lt; omega, RB.out.2.2, by have := KW2.out.1.size; omega⟩)
      clear hfull hi kW hR hmk hdkl hdkU hUU hUn hUl hlen k119 bp9 k29 br9 hit hky k12 hkb hz12 hz11 hb2 bi12 hib hnf
      gi_wp2_with fail
      refine callsIn_WR.2 (SN.out.mono ?_)
      rintro e wB ⟨sB, rfl, hoB, kB⟩
      rw [HS0.out] at hoB
      obtain ⟨aB, cB, rfl, -, hyB, -⟩ := hoB.form
      have hcvB := hyB.conv (c := cB)
      have hself := bytes_self S0
      have KB := Lib.hid kB
      have hcr := (FIN.out.1.kept kB (fun e => e)).cell
      have hfr := (FIN.out.1.kept kB (fun e => e)).frozen
      clear hoB hyB kB hcp hci
      gi_wp2_with fail
      obtain ⟨hb9, k9, hdk, hrd, hrb, hdl⟩ := FIN.out
      have ks := Kept.one_set wB ⟨rb, 0, none⟩ (.bool true)
      have kF9 : Kept (fun b => b = rb) W9 (wB.setCell ⟨rb, 0, none⟩ (.bool true)) := (KB.out.mono fun _ _ e => e.elim).trans ks (fun _ _ e => e)
      have hdk2 := (kF9.block dk (Array.getElem?_eq_some_iff.1 hdk).1 (fun e => hrd e.symm)).trans hdk
      refine leaves_marks [dk] _ (by simp) (fun d hd => by rw [List.mem_singleton.1 hd]; exact hdk2) (fun W' kd' => ?_)
      have hb := ((hb9.kept KB.out (fun e => e)).set (.bool true)).kept kd' (fun e => hrd (List.mem_singleton.1 e))
      refine ⟨_, results_box rfl Tryz.underlying4 rfl rfl hb, rfl, ?_⟩
      exact (k9.trans kF9 (fun b hb e => by omega)).trans kd' (fun b hb e => by have := List.mem_singleton.1 e; omega)
  | cons p L' =>
    have e1 : (batchP 1 (p :: L')).1 = [p] := rfl
    have h6 := H6.out.1
    rw [e1] at h6
    obtain ⟨g3, hg3⟩ := H6.out.2.2.1 (by rw [e1]; exact Nat.one_pos)
    subst hg3
    have d3 := own_cell (ownsRow_kept h6 (H7.out.1.trans H8.out.1 (fun _ _ e => e)) (fun _ _ e => e)) (j := 0) rfl
    have b3 := bytes_self p.1
    simp only [e1, List.length_cons, List.length_nil, Nat.zero_add, nextP]
    clear h6
    gi_wp2_with fail
    clear d3 b3
    refine callsIn_WR.2 (RP.out.mono ?_)
    rintro e w9 ⟨sv, rfl, hrow, -, k9⟩
    rw [show pairsP (kvs Er) = pairsP P by rw [SE.out.2.2, pairsP_ord m SE.out.1.nodup]] at hrow
    obtain ⟨pa, pc, rfl, -⟩ := own_form hrow
    obtain ⟨PL, hPL⟩ : ∃ PL, pairsP P = PL := ⟨_, rfl⟩
    obtain ⟨NP, hNP⟩ : ∃ NP, PL.length = NP := ⟨_, rfl⟩
    rw [hPL, hNP] at hrow
    have e9 : (pairsP (kvs Er)).length = NP := by rw [SE.out.2.2, pairsP_ord m SE.out.1.nodup, hPL, hNP]
    try rw [e9]
    try rw [hPL, hNP]
    have hNP12 : NP ≤ 12 := by rw [← hNP, ← hPL, pairsP_len]; exact hP12
    have HPL := Lib.hid (And.intro hPL hNP)
    obtain ⟨pb, hpb⟩ : ∃ pb, w9.heap.size = pb := ⟨_, rfl⟩
    obtain ⟨w10, hw10⟩ : ∃ w10, w9.alloc (.cells #[.slice pa NP pc] 63) = w10 := ⟨_, rfl⟩
    obtain ⟨w11, hw11⟩ : ∃ w11, w10.alloc (.cells #[.int .i64 0] 3) = w11 := ⟨_, rfl⟩
    have hz10 : w10.heap.size = pb + 1 := by rw [← hw10, ← hpb]; simp
    have k911 : Kept (fun _ => False) w9 w11 := by rw [← hw11, ← hw10]; exact (Kept.one_alloc _ _).alloc _
    have bp11 : Box w11 pb (.slice pa NP pc) := by rw [← hw11, ← hw10, ← hpb]; exact (Box.new _ _ _).alloc _
    have bi11 : Box w11 (pb + 1) (.int .i64 0) := by rw [← hw11, ← hz10]; exact Box.new _ _ _
    have K211 := Lib.hid ((H8.out.2.trans k9 (fun _ _ e => e)).trans k911 (fun _ _ e => e))
    have B11 := Lib.hid (And.intro bp11 (And.intro bi11 (And.intro (ownsRow_kept hrow k911 (fun _ _ e => e)) (show w2.heap.size ≤ pb from by rw [← hpb]; exact (H8.out.2.trans k9 (fun _ _ e => e)).size))))
    have hown : ∀ b, (Value.slice pa NP pc).ownBlock = some b → b < pb := fun b e => by rw [← hpb]; exact (hrow.lt b e).2
    have HOWN := Lib.hid hown
    have HZ11 := Lib.hid (show w11.heap.size = pb + 2 from by rw [← hw11]; simp [hz10])
    have HW11 := Lib.hid (And.intro hw10 (And.intro hw11 hpb))
    clear hrow hPL hNP e9 hz10 k911 bp11 bi11 k9 hw10 hw11 hpb hown
    gi_wp2_with fail
    try rw [HW11.out.2.2]
    try rw [HW11.out.1]
    try rw [HW11.out.2.1]
    obtain ⟨iv, E, F, hT, hPE, hF⟩ := SE.out.1.bound
    have hT11 := hT.kept K211.out (fun _ _ e => e)
    have HT := Lib.hid (And.intro hT11 (And.intro hPE (show ∀ b, Tfp bt E F b → b < w2.heap.size from fun b hb => (hF b hb).2)))
    clear hT hPE hF
    refine callsIn_WR.2 ((keys_any hT11).mono ?_)
    rintro e w12 ⟨kb, rfl, hky, k12, hkb⟩
    have hnf := run_eq_nilFunc (P := Tryz.prog) w12 (.func 46) #[] #[.pointer (some ⟨kb, 0, none⟩)] Tryz.underlying72
    have H12 := Lib.hid (And.intro hky (And.intro k12 hkb))
    clear hT11 hky k12 hkb
    gi_wp2_with fail
    obtain ⟨hky, k12, hkb⟩ := H12.out
    have hz12 := k12.size
    have hz11 := HZ11.out
    have hb2 := B11.out.2.2.2
    obtain ⟨ib, hib⟩ : ∃ ib, pb + 1 = ib := ⟨_, rfl⟩
    try rw [hib]
    have HIB := Lib.hid hib
    have bi12 : Box w12 ib (.int .i64 0) := by rw [← hib]; exact B11.out.2.1.kept k12 (fun e => e)
    obtain ⟨KS, hKS⟩ : ∃ KS, keysP (kvs E) = KS := ⟨_, rfl⟩
    have hKP : KS = PL.map (·.1) := by rw [← hKS, HT.out.2.1]; unfold keysP; rw [HPL.out.1]
    have HKS := Lib.hid hKP
    have hit := keys1_any kb bt m iv E F
    rw [hKS] at hit
    clear hKS hKP
    refine wpW_rangeG hit rfl keys_enters (fun _ => by rfl) (fun (pre : List ByteArray) U W' => CountO ib pre.length U W') (fun _ _ _ => False) (fun b => b = ib)
      (fun pre U W W' h k => CountO.kept h k) (fun _ _ _ _ h _ => h) ?_ ?_ ?_ hky (fun W W' h k => h.kept k (fun b hb e => e hb)) ⟨bi12, rfl⟩ ?_ ?_ (fun _ _ _ _ h => h.elim)
    · rintro b hb (h | h)
      · omega
      · have := HT.out.2.2 b h
        omega
    · exact hky.dlt
    · intro b hb
      omega
    · intro l pre k rest U' W7 hitems hi hkw hlt' hD' hRd' hl hlD hlW hlw hUU
      have LK := Lib.hid (And.intro hlt' (And.intro hl (And.intro hkw (And.intro hlw (And.intro hi (And.intro hlW hitems))))))
      clear hi hlt' hD' hRd' hlD hkw hitems hnf hl hlw hUU hlW hky k12 hkb hz12 hz11 hb2 bi12 hib hit
      simp only [List.zip_toArray, List.zip_cons_cons, List.zip_nil_left, List.foldl_toArray', List.foldl_cons, List.foldl_nil, List.setIfInBounds_toArray, List.set_cons_succ, List.set_cons_zero]
      gi_wp2_with (rw [Oper.semAt_eq _ _ _ (fun c h => by cases h)]; go_simp; try go_bits)
      refine ⟨trivial, ?_⟩
      intro W8 kl zl
      clear zl
      have hi8 := CountO.kept LK.out.2.2.2.2.1 (kl.mono fun b _ e h => by subst e; exact LK.out.2.1 h)
      obtain ⟨j, hj⟩ : ∃ j, pre.length = j := ⟨_, rfl⟩
      rw [hj] at hi8
      have hjN : j < NP := by
        rw [← HPL.out.2, ← List.length_map (f := fun p : Pr => p.1), ← HKS.out, ← LK.out.2.2.2.2.2.2, ← hj]
        simp <;> omega
      obtain ⟨p9, hp9⟩ : ∃ p9, PL[j]? = some p9 := ⟨_, List.getElem?_eq_getElem (by rw [HPL.out.2]; exact hjN)⟩
      have hpk : p9.1 = k := by
        have h1 : KS[j]? = some k := by rw [← LK.out.2.2.2.2.2.2, ← hj]; simp
        rw [HKS.out, List.getElem?_map, hp9] at h1
        exact Option.some.inj h1
      have k118 : Kept (fun b => b = ib ∨ b = l) w11 W8 := ((H12.out.2.1.mono fun _ _ e => e.elim).trans LK.out.2.2.1 (fun b hb e => .inl e)).trans kl (fun b hb e => .inr e)
      have hll : w11.heap.size ≤ l := Nat.le_trans H12.out.2.1.size LK.out.2.2.2.1
      have hz := HZ11.out
      have hibb := HIB.out
      have bp8 := B11.out.1.kept k118 (fun e => by omega)
      have row8 := ownsRow_kept B11.out.2.2.1 k118 (fun b e => by have := HOWN.out b e; omega)
      obtain ⟨pa', pc', e, hg, -, -⟩ := own_form row8
      obtain ⟨g9, hg9⟩ := hg (by omega)
      cases e
      subst hg9
      have d9 := own_cell row8 (prV_at hp9).1
      rw [hpk] at d9
      have b9 := bytes_self k
      have hcp := bp8.cell
      have hci := hi8.1.cell
      have hfi := hi8.1.frozen
      have n1 : (j : Int) < (NP : Int) := by omega
      have n2 : IntKind.i64.wrap ((j : Int) + 1) = (j : Int) + 1 := IntWalk.i64_in _ (by omega)
      have B8 := Lib.hid (And.intro hi8 (And.intro kl hj))
      clear hi8 kl hj hjN hp9 hpk k118 hll hz hibb bp8 row8 hg
      gi_wp2_with (rw [Oper.semAt_eq _ _ _ (fun c h => by cases h)]; go_simp; try go_bits)
      obtain ⟨hi8, kl, hj⟩ := B8.out
      have kr : Kept U' W8 (W8.setCell ⟨ib, 0, none⟩ (.int .i64 ((j : Int) + 1))) := Kept.mono (Kept.one_set W8 ⟨ib, 0, none⟩ _) (fun b _ e => by have e : b = ib := e; rw [e]; exact hi8.2)
      obtain ⟨e1, e2, e3, e4⟩ := round_plain (U := U') kl LK.out.2.1 LK.out.1 LK.out.2.2.2.2.2.1 kr
      refine ⟨e1, _, e2, e3, e4, ?_, hi8.2⟩
      rw [List.length_append, hj]
      exact hi8.1.set _
    · intro items dk U3 W9 hfull hi kW hR hmk hdkl hdkU hUU hUn hUl
      have hlen : items.length = NP := by rw [hfull, HKS.out, List.length_map, HPL.out.2]
      rw [hlen] at hi
      have k119 : Kept (fun b => b = ib) w11 W9 := (k12.mono fun _ _ e => e.elim).trans kW (fun b hb e => e)
      have bp9 := B11.out.1.kept k119 (fun e => by omega)
      have hcp := bp9.cell
      have hci := hi.1.cell
      have k29 : Kept (fun _ => False) w2 W9 := K211.out.trans k119 (fun b hb e => by omega)
      have br9 := KW2.out.2.kept k29 (fun e => e)
      have SN := Lib.hid (ses_snap (SE.out.1.keep k29))
      have FIN := Lib.hid (show Box W9 rb (.bool false) ∧ Kept (fun _ => False) W W9 ∧ W9.heap[dk]? = some (.deferred (some [])) ∧ rb ≠ dk ∧ W.heap.size ≤ rb ∧ W.heap.size ≤ dk from
        ⟨br9, KW2.out.1.trans k29 (fun _ _ e => e), hmk, by have := KW2.out.2.lt; omega, RB.out.2.2, by have := KW2.out.1.size; omega⟩)
      clear hfull hi kW hR hmk hdkl hdkU hUU hUn hUl hlen k119 bp9 k29 br9 hit hky k12 hkb hz12 hz11 hb2 bi12 hib hnf
      gi_wp2_with fail
      refine callsIn_WR.2 (SN.out.mono ?_)
      rintro e wB ⟨sB, rfl, hoB, kB⟩
      rw [HS0.out] at hoB
      obtain ⟨aB, cB, rfl, -, hyB, -⟩ := hoB.form
      have hcvB := hyB.conv (c := cB)
      have hself := bytes_self S0
      have KB := Lib.hid kB
      have hcr := (FIN.out.1.kept kB (fun e => e)).cell
      have hfr := (FIN.out.1.kept kB (fun e => e)).frozen
      clear hoB hyB kB hcp hci
      gi_wp2_with fail
      obtain ⟨hb9, k9, hdk, hrd, hrb, hdl⟩ := FIN.out
      have ks := Kept.one_set wB ⟨rb, 0, none⟩ (.bool true)
      have kF9 : Kept (fun b => b = rb) W9 (wB.setCell ⟨rb, 0, none⟩ (.bool true)) := (KB.out.mono fun _ _ e => e.elim).trans ks (fun _ _ e => e)
      have hdk2 := (kF9.block dk (Array.getElem?_eq_some_iff.1 hdk).1 (fun e => hrd e.symm)).trans hdk
      refine leaves_marks [dk] _ (by simp) (fun d hd => by rw [List.mem_singleton.1 hd]; exact hdk2) (fun W' kd' => ?_)
      have hb := ((hb9.kept KB.out (fun e => e)).set (.bool true)).kept kd' (fun e => hrd (List.mem_singleton.1 e))
      refine ⟨_, results_box rfl Tryz.underlying4 rfl rfl hb, rfl, ?_⟩
      exact (k9.trans kF9 (fun b hb e => by omega)).trans kd' (fun b hb e => by have := List.mem_singleton.1 e; omega)
end Go.Proofs.YtjkgimloafpipaaGreat
