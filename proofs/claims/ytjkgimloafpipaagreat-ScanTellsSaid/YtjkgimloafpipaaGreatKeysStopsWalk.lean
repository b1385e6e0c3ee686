/- ScanStops, walked. -/
import Derived.Test.YtjkgimloafpipaaGreatSizesWalk
import Derived.Test.YtjkgimloafpipaaGreatCount
import Derived.Test.YtjkgimloafpipaaGreatScanD
namespace Go.Proofs.YtjkgimloafpipaaGreat
set_option linter.unusedVariables false
set_option linter.unusedSimpArgs false
open Go.RowKit Go.MapKept Go.Deep

/-- What the rounds know: the last key, how many were told. -/
def StopI (lb cb : Nat) (nn : Nat) (pre : List ByteArray) (U : Nat → Prop) (W : World) : Prop := Box W lb (.string (lastK pre)) ∧ CountO cb pre.length U W ∧ U lb ∧ lb ≠ cb ∧ pre.length ≤ nn
theorem StopI.kept {lb cb nn : Nat} {pre : List ByteArray} {U : Nat → Prop} {W W' : World} (h : StopI lb cb nn pre U W) (q : Kept (fun b => ¬ U b) W W') : StopI lb cb nn pre U W' := ⟨h.1.kept q (fun e => e h.2.2.1), h.2.1.kept q, h.2.2⟩
theorem D2.lowX {W W0 w : World} {m : TM} {bt br : Nat} {X : Nat → Prop} {P Q : List Pr} (h : D2 W0 m bt br X P Q w) (q : Kept (fun _ => False) W W0) : D2 W m bt br (fun b => X b ∨ b < W0.heap.size) P Q w := by
  obtain ⟨Ft, Fr, h1, h2, h3, h4⟩ := h.ex
  have := q.size
  exact ⟨⟨Ft, Fr, h1, h2, h3, fun b hb => by have := h4 b hb; exact ⟨by omega, this.2.1, fun e => e.elim this.2.2 (fun e => by omega)⟩⟩, q.trans h.back (fun _ _ e => e)⟩
set_option maxRecDepth 100000 in
set_option maxHeartbeats 4000000 in
theorem scanStops_any (kind key value most : Int) (a : Option Addr) (n c : Nat) (ss : Nat → Pr) (x : Int) (W : World) (hs : Puts W a n ss) (hn : n ≤ 9223372036854775807) :
    Calls Tryz.prog 10 #[.int .i64 kind, .int .i64 key, .int .i64 value, .int .i64 most, .slice a n c, .int .i64 x] W fun e w' => e = .returned (.bool true) ∧ Kept (fun _ => False) W w' := by
  have HS := Lib.hid hs
  clear hs
  obtain ⟨nn, hnn, hnn'⟩ := mask_nat x 4 (by omega) 15 (by decide)
  refine callsIn_WR (ro := none) (n := 0).1 (callsIn_of_wp_marks Tryz.func10 rfl trivial ?_ rfl)
  simp only [Tryz.ntmps10, List.size_toArray, List.length_cons, List.length_nil, Nat.reduceAdd, Nat.reduceSub, Array.replicate_succ, Array.replicate_zero, List.push_toArray, List.append_toArray, List.nil_append, List.cons_append]
  gi_wp2_with fail
  obtain ⟨W1, hW1⟩ : ∃ W1, W1 = (W.alloc (.cells #[.int .i64 x] 3)).alloc (.cells #[.bool false] 4) := ⟨_, rfl⟩
  obtain ⟨nb, hnb⟩ : ∃ nb, W.heap.size = nb := ⟨_, rfl⟩
  have RB := Lib.hid (show Box W1 nb (.int .i64 x) ∧ Box W1 (nb + 1) (.bool false) ∧ Kept (fun _ => False) W W1 from by
    rw [hW1, ← hnb]
    refine ⟨(Box.new W _ _).alloc _, ?_, (Kept.one_alloc W _).alloc _⟩
    have := Box.new (W.alloc (.cells #[.int .i64 x] 3)) (.bool false) 4
    simpa using this)
  rw [← hW1, hnb]
  have HNB := Lib.hid hnb
  clear hW1 hnb
  refine callsIn_WR.2 ((shown_any W1).mono ?_)
  rintro e w1 ⟨rfl, k1⟩
  have K1 := Lib.hid k1
  have MD := Lib.hid (made11_any kind key value most a n c ss w1 (fun i hi => by
    obtain ⟨b, o, e, hb, hp⟩ := HS.out i hi
    have kk := RB.out.2.2.trans k1 (fun _ _ e => e)
    exact ⟨b, o, e, Nat.lt_of_lt_of_le hb kk.size, hp.kept hb kk (fun e => e)⟩) hn)
  clear k1
  gi_wp2_with fail
  refine callsIn_WR.2 (MD.out.mono ?_)
  rintro e w2 ⟨bt, br, P, rfl, hd⟩
  clear MD
  have kW2 := hd.back
  have bx2 := (RB.out.1.kept K1.out (fun e => e)).kept kW2 (fun e => e)
  have br2 := (RB.out.2.1.kept K1.out (fun e => e)).kept kW2 (fun e => e)
  obtain ⟨tb, htb⟩ : ∃ tb, w2.heap.size = tb := ⟨_, rfl⟩
  obtain ⟨w3, hw3⟩ : ∃ w3, w2.alloc (.cells #[.pointer (some ⟨bt, 0, none⟩)] 27) = w3 := ⟨_, rfl⟩
  have k23 : Kept (fun _ => False) w2 w3 := by rw [← hw3]; exact Kept.one_alloc _ _
  have bx3 := bx2.kept k23 (fun e => e)
  have hcx := bx3.cell
  have hfx := bx3.frozen
  have btb : Box w3 tb (.pointer (some ⟨bt, 0, none⟩)) := by rw [← hw3, ← htb]; exact Box.new _ _ _
  have hct := btb.cell
  have hnl : nb < tb := by rw [← htb]; exact bx2.lt
  obtain ⟨w4, hw4⟩ : ∃ w4, w3.setCell ⟨nb, 0, none⟩ (.int .i64 (nn : Int)) = w4 := ⟨_, rfl⟩
  obtain ⟨w5, hw5⟩ : ∃ w5, (w4.alloc (.cells #[.string ⟨#[]⟩] 9)).alloc (.cells #[.int .i64 0] 3) = w5 := ⟨_, rfl⟩
  have hz4 : w4.heap.size = tb + 1 := by rw [← hw4, ← hw3, ← htb]; simp [World.setCell]
  have k45 : Kept (fun _ => False) w4 w5 := by rw [← hw5]; exact (Kept.one_alloc _ _).alloc _
  have k34 : Kept (fun b => b = nb) w3 w4 := by rw [← hw4]; exact Kept.one_set w3 ⟨nb, 0, none⟩ _
  have bt5 : Box w5 tb (.pointer (some ⟨bt, 0, none⟩)) := (btb.kept k34 (fun e => by omega)).kept k45 (fun e => e)
  have bn5 : Box w5 nb (.int .i64 (nn : Int)) := by
    refine Box.kept ?_ k45 (fun e => e)
    rw [← hw4]
    exact bx3.set _
  have bl5 : Box w5 (tb + 1) (.string ⟨#[]⟩) := by
    rw [← hw5, ← hz4]
    exact (Box.new w4 _ _).alloc _
  have bc5 : Box w5 (tb + 1 + 1) (.int .i64 0) := by
    rw [← hw5]
    have := Box.new (w4.alloc (.cells #[.string ⟨#[]⟩] 9)) (.int .i64 0) 3
    simpa [hz4] using this
  have br5 : Box w5 (nb + 1) (.bool false) := ((br2.kept k23 (fun e => e)).kept k34 (fun e => by omega)).kept k45 (fun e => e)
  have hz5 : w5.heap.size = tb + 3 := by rw [← hw5]; simp [hz4]
  have k25 : Kept (fun b => b = nb) w2 w5 := ((k23.mono fun _ _ e => e.elim).trans k34 (fun _ _ e => e)).trans k45 (fun _ _ e => e.elim)
  have hKW1 : Kept (fun _ => False) W w1 := RB.out.2.2.trans K1.out (fun _ _ e => e)
  have D5 := Lib.hid (((hd.lowX hKW1).more (Y := fun b => b < w1.heap.size ∨ tb ≤ b) (fun b hb => hb.elim (fun h => .inl (.inr h)) (fun h => .inr (by omega)))).keepX k25 (fun b e => .inl ⟨.inl (by rw [e]; exact (RB.out.1.kept K1.out (fun e => e)).lt), by have := HNB.out; omega⟩))
  have BX := Lib.hid (show Box w5 nb (.int .i64 (nn : Int)) ∧ Box w5 (nb + 1) (.bool false) ∧ Box w5 tb (.pointer (some ⟨bt, 0, none⟩)) ∧ Box w5 (tb + 1) (.string ⟨#[]⟩) ∧ Box w5 (tb + 1 + 1) (.int .i64 0) ∧ w5.heap.size = tb + 3 ∧ w1.heap.size ≤ tb ∧ nb + 1 < w1.heap.size from ⟨bn5, br5, bt5, bl5, bc5, hz5, by rw [← htb]; exact hd.back.size, (RB.out.2.1.kept K1.out (fun e => e)).lt⟩)
  have hc5 := bt5.cell
  rw [← hw5, ← hw4, ← hw3, ← htb] at hc5
  rw [← hw3] at hcx hfx
  have HW5 := Lib.hid (And.intro hw3 (And.intro hw4 (And.intro hw5 htb)))
  clear hd bx2 br2 hw3 htb k23 kW2 bx3 btb hct hnl hw4 hw5 hz4 k45 k34 bt5 bn5 bl5 bc5 br5 hz5 k25 hKW1
  gi_wp2_with fail
  try rw [HW5.out.2.2.2]
  try rw [HW5.out.1]
  try rw [HW5.out.2.1]
  try rw [HW5.out.2.2.1]
  obtain ⟨rb, hrb⟩ : ∃ rb, nb + 1 = rb := ⟨_, rfl⟩
  obtain ⟨lb, hlb⟩ : ∃ lb, tb + 1 = lb := ⟨_, rfl⟩
  obtain ⟨cb, hcb⟩ : ∃ cb, lb + 1 = cb := ⟨_, rfl⟩
  rw [hrb, hlb, hcb]
  rw [hrb, hlb, hcb] at BX
  have NUM := Lib.hid (And.intro hrb (And.intro hlb hcb))
  clear hrb hlb hcb hcx hfx hc5 HW5
  obtain ⟨Ft, Fr, hses, hrs, hap, hfl⟩ := D5.out.ex
  obtain ⟨iv, E, F, hT, hP, hF⟩ := hses
  have hfar : ∀ b, Tfp bt E F b → ¬ b < w1.heap.size ∧ b < tb := fun b hb => by
    have h1 := hfl b (.inl (hF b hb))
    exact ⟨fun e => h1.2.2 (.inl e), Nat.lt_of_not_le (fun e => h1.2.2 (.inr e))⟩
  have FAR := Lib.hid hfar
  have HT := Lib.hid (And.intro hT hP)
  clear hrs hap hfl hF hfar
  refine callsIn_WR.2 ((keys_any hT).mono ?_)
  rintro e w6 ⟨kb, rfl, hky, k6, hkb⟩
  have hnf := run_eq_nilFunc (P := Tryz.prog) w6 (.func 46) #[] #[.pointer (some ⟨kb, 0, none⟩)] Tryz.underlying72
  have H6 := Lib.hid (And.intro hky (And.intro k6 hkb))
  clear hT hP hky k6 hkb
  gi_wp2_with fail
  obtain ⟨hky, k6, hkb⟩ := H6.out
  have hz5 := BX.out.2.2.2.2.2.1
  have hnum := NUM.out
  have hz6 := k6.size
  obtain ⟨KS, hKS⟩ : ∃ KS, keysP (kvs E) = KS := ⟨_, rfl⟩
  have HKS := Lib.hid hKS
  have hit := keys1_any kb bt (smallM kind key value most) iv E F
  rw [hKS] at hit
  refine wpW_rangeG hit rfl keys_enters (fun _ => by rfl) (fun (pre : List ByteArray) U W' => StopI lb cb nn pre U W') (fun c U W' => c = .exit 0 ∧ CountO cb nn U W' ∧ nn ≤ KS.length) (fun b => b = lb ∨ b = cb)
    (fun pre U W W' h k => StopI.kept h k) (fun c U W W' h k => ⟨h.1, CountO.kept h.2.1 k, h.2.2⟩) ?_ ?_ ?_ hky (fun W W' h k => h.kept k (fun b hb e => e hb)) ⟨(BX.out.2.2.2.1.kept k6 (fun e => e)), ⟨BX.out.2.2.2.2.1.kept k6 (fun e => e), .inr rfl⟩, .inl rfl, by omega, Nat.zero_le _⟩ ?_ ?_ ?_
  · rintro b hb (h | h)
    · omega
    · have := (FAR.out b h).2
      omega
  · exact hky.dlt
  · intro b hb
    omega
  · intro l pre k rest U' W7 hitems hi hkw hlt' hD' hRd' hl hlD hlW hlw hUU
    clear hit hKS
    have hnx : nextP (aboveP (lastK pre) (decide (pre.length = 0)) (kvs E)) = (k, true) := next_of (by have := HT.out.1.keys; unfold kvs; rw [List.map_map]; exact this) (hitems.trans HKS.out.symm)
    have LK := Lib.hid (And.intro hlt' (And.intro hl (And.intro hkw (And.intro hlw (And.intro hi (And.intro hlW (And.intro hRd' (And.intro hitems hlD))))))))
    have HNX := Lib.hid hnx
    clear hi hlt' hD' hRd' hlD hkw hitems hnf hl hlw hUU hlW hnx hky k6 hkb hz5 hnum hz6
    simp only [List.zip_toArray, List.zip_cons_cons, List.zip_nil_left, List.foldl_toArray', List.foldl_cons, List.foldl_nil, List.setIfInBounds_toArray, List.set_cons_succ, List.set_cons_zero]
    gi_wp2_with (rw [Oper.semAt_eq _ _ _ (fun c h => by cases h)]; go_simp; try go_bits)
    refine ⟨trivial, ?_⟩
    intro W8 kl zl
    have ZL := Lib.hid (And.intro kl zl)
    have hi8 := StopI.kept LK.out.2.2.2.2.1 (kl.mono fun b _ e h => by subst e; exact LK.out.2.1 h)
    have hR8 : KyRd kb bt (smallM kind key value most) iv E F W8 := LK.out.2.2.2.2.2.2.1.kept kl (fun b hb e => LK.out.2.2.2.2.2.2.2.2 (by rw [← e]; exact hb))
    obtain ⟨hbl, hbc, hUl, hne, hlen⟩ := hi8
    obtain ⟨lk, hlk⟩ : ∃ lk, lastK pre = lk := ⟨_, rfl⟩
    obtain ⟨j, hj⟩ : ∃ j, pre.length = j := ⟨_, rfl⟩
    rw [hlk] at hbl
    rw [hj] at hbc hlen
    have hnx := HNX.out
    rw [hlk, hj] at hnx
    have hjK : j < KS.length := by rw [← hj, ← LK.out.2.2.2.2.2.2.2.1]; simp <;> omega
    have hKS100 : KS.length ≤ 100000 := by
      rw [← HKS.out]
      unfold keysP
      have := HT.out.1.len
      have := (small_right kind key value most).2.2.2
      rw [List.length_map, pairsP_len, kvs_len]
      omega
    have k58 : Kept (fun b => b = lb ∨ b = cb ∨ b = l) w5 W8 := ((H6.out.2.1.mono fun _ _ e => e.elim).trans LK.out.2.2.1 (fun b hb e => e.elim .inl (fun e => .inr (.inl e)))).trans kl (fun b hb e => .inr (.inr e))
    have hlw5 : w5.heap.size ≤ l := Nat.le_trans H6.out.2.1.size LK.out.2.2.2.1
    have hbx := BX.out
    have hnum := NUM.out
    have bt8 := hbx.2.2.1.kept k58 (fun e => by omega)
    have bn8 := hbx.1.kept k58 (fun e => by omega)
    have hcl := hbl.cell
    have hfl := hbl.frozen
    have hcc := hbc.1.cell
    have hfc := hbc.1.frozen
    have hct := bt8.cell
    have hcn := bn8.cell
    have hw1 : IntKind.i64.wrap ((j : Int) + 1) = (j : Int) + 1 := IntWalk.i64_in _ (by omega)
    have B8 := Lib.hid (And.intro hbl (And.intro hbc (And.intro hUl (And.intro hne (And.intro kl (And.intro hj (And.intro hR8 hnx)))))))
    have HLK := Lib.hid hlk
    have HJK := Lib.hid hjK
    clear hbl hbc hUl hne kl hR8 hlk hj hnx k58 hlw5 hbx hnum bt8 bn8 hKS100 hjK zl
    by_cases hjn : j = nn
    · have hbe : ((j : Int) == (nn : Int)) = true := by rw [beq_iff_eq]; omega
      have HJN := Lib.hid hjn
      clear hjn
      gi_wp2_with (rw [Oper.semAt_eq _ _ _ (fun c h => by cases h)]; go_simp; try go_bits)
      obtain ⟨hbl, hbc, hUl, hne, kl, hj, -⟩ := B8.out
      obtain ⟨e1, e2, e3, e4⟩ := round_plain (U := U') kl LK.out.2.1 LK.out.1 LK.out.2.2.2.2.2.1 (Kept.refl U' W8)
      exact ⟨e1, _, e2, e3, e4, rfl, by rw [← HJN.out]; exact hbc, by have := HJN.out; have := HJK.out; omega⟩
    · have hbe : ((j : Int) == (nn : Int)) = false := by rw [beq_eq_false_iff_ne]; omega
      have hjn2 : j + 1 ≤ nn := by omega
      clear hjn
      gi_wp2_with (rw [Oper.semAt_eq _ _ _ (fun c h => by cases h)]; go_simp; try go_bits)
      rw [show ((j : Int) == 0) = decide (j = 0) by
        by_cases h : j = 0
        · subst h; rfl
        · rw [decide_eq_false h, beq_eq_false_iff_ne]; omega]
      refine callsIn_WR.2 ((next_any B8.out.2.2.2.2.2.2.1.tbl lk (decide (j = 0))).mono ?_)
      rintro e w9 ⟨rfl, k9⟩
      rw [B8.out.2.2.2.2.2.2.2]
      have hcl9 := (k9.cell (p := ⟨lb, 0, none⟩) B8.out.1.lt (fun e => e)).trans hcl
      have hfl9 := (B8.out.1.kept k9 (fun e => e)).frozen
      have hcc9 := (B8.out.2.1.1.kept k9 (fun e => e)).cell
      have hfc9 := (B8.out.2.1.1.kept k9 (fun e => e)).frozen
      have hlc : lb ≠ cb := B8.out.2.2.2.1
      have hlc2 : (lb == cb) = false := by rw [beq_eq_false_iff_ne]; exact hlc
      have K9 := Lib.hid k9
      clear hcl hfl hcc hfc k9 hct hcn
      gi_wp2_with (rw [Oper.semAt_eq _ _ _ (fun c h => by cases h)]; go_simp; try go_bits)
      obtain ⟨hbl, hbc, hUl, hne, kl, hj, -⟩ := B8.out
      have hb1 := (hbl.kept K9.out (fun e => e)).set (.string k)
      have hb2 := ((hbc.1.kept K9.out (fun e => e)).other (.string k) (fun e => hne e.symm)).set (.int .i64 ((j : Int) + 1))
      have kr : Kept U' W8 ((w9.setCell ⟨lb, 0, none⟩ (.string k)).setCell ⟨cb, 0, none⟩ (.int .i64 ((j : Int) + 1))) :=
        ((K9.out.mono (S' := U') fun _ _ e => e.elim).trans (Kept.one_set w9 ⟨lb, 0, none⟩ _) (fun b _ e => by have e : b = lb := e; rw [e]; exact hUl)).trans (Kept.one_set _ ⟨cb, 0, none⟩ _) (fun b _ e => by have e : b = cb := e; rw [e]; exact hbc.2)
      obtain ⟨e1, e2, e3, e4⟩ := round_plain (U := U') kl LK.out.2.1 LK.out.1 LK.out.2.2.2.2.2.1 kr
      refine ⟨e1, _, e2, e3, e4, ?_⟩
      refine ⟨?_, ⟨?_, hbc.2⟩, hUl, hne, ?_⟩
      · rw [lastK_snoc]
        exact hb1.other _ hne
      · rw [List.length_append, hj]
        exact hb2
      · rw [List.length_append, hj]
        exact hjn2
  · intro items dk U3 W9 hfull hi kW hR hmk hdkl hdkU hUU hUn hUl
    rw [hfull] at hi
    have hcnt : KS.length ≤ nn := hi.2.2.2.2
    clear hfull hR hdkU hUU hUn hUl
    obtain ⟨T, hTN⟩ : ∃ T, KS.length = T := ⟨_, rfl⟩
    have k59 : Kept (fun b => b = lb ∨ b = cb) w5 W9 := (k6.mono fun _ _ e => e.elim).trans kW (fun b hb e => e)
    have hbx := BX.out
    have bn9 := hbx.1.kept k59 (fun e => by omega)
    have br9 := hbx.2.1.kept k59 (fun e => by omega)
    have hQl : (ordP (smallM kind key value most) P).length = KS.length := by rw [ordP_len, ← HKS.out]; unfold keysP; rw [List.length_map, pairsP_len, HT.out.2]
    have hmin : min (nn : Int) (KS.length : Int) = (T : Int) := by omega
    have D9 := D5.out.keepX k59 (fun b hb => .inl ⟨.inr (by rcases hb with hb | hb <;> omega), by have := HNB.out; omega⟩)
    have LEN2 := Lib.hid (show ∀ W', Kept (fun _ => False) W9 W' → Calls Tryz.prog 31 #[.pointer (some ⟨br, 0, none⟩)] W' fun e w' => e = .returned (.int .i64 (KS.length : Nat)) ∧ Kept (fun _ => False) W9 w' from by
      intro W' kk
      refine (d2_len2 (D9.keep kk)).mono ?_
      rintro e w' ⟨rfl, rfl⟩
      exact ⟨by rw [hQl], kk⟩)
    have RBX := Lib.hid (show ∀ w', Kept (fun _ => False) W9 w' → w'.cell? ⟨rb, 0, none⟩ = some (.bool false) ∧ w'.frozen? ⟨rb, 0, none⟩ = false from fun w' kk => ⟨(br9.kept kk (fun e => e)).cell, (br9.kept kk (fun e => e)).frozen⟩)
    have hbi : Box W9 cb (.int .i64 (T : Int)) := by rw [← hTN]; exact hi.2.1.1
    have CELLS := Lib.hid (show ∀ w', Kept (fun b => b = rb) W9 w' → w'.cell? ⟨cb, 0, none⟩ = some (.int .i64 (T : Int)) ∧ w'.cell? ⟨nb, 0, none⟩ = some (.int .i64 (nn : Int)) from
      fun w' kk => ⟨(hbi.kept kk (fun e => by omega)).cell, (bn9.kept kk (fun e => by omega)).cell⟩)
    have FIN := Lib.hid (show Box W9 rb (.bool false) ∧ Kept (fun _ => False) W W9 ∧ W9.heap[dk]? = some (.deferred (some [])) ∧ rb ≠ dk ∧ W.heap.size ≤ rb ∧ W.heap.size ≤ dk from
      ⟨br9, D9.back, hmk, by omega, by have := HNB.out; omega, by have := HNB.out; omega⟩)
    clear D9 bn9 br9 hbi k59 hmk hdkl hQl hbx hnum hz5 hz6 hTN hit hKS hky k6 hkb hnf
    gi_wp2_with fail
    refine wpW_region_held (S := fun w' => w'.cell? ⟨cb, 0, none⟩ = some (.int .i64 (T : Int)) ∧ w'.cell? ⟨nb, 0, none⟩ = some (.int .i64 (nn : Int))) (by kernel_rfl) (by kernel_rfl) (by rintro ⟨_, _, h⟩; first | exact h.elim | (obtain ⟨h1, -⟩ := h; cases h1)) ?_ (fun hHeld => ?_)
    · exact CELLS.out _ ((Kept.refl _ _).twin ⟨rfl, rfl, rfl, rfl⟩)
    refine held_take 0 (oi := _) (v := ?_) rfl (by kernel_rfl) (by kernel_rfl) (by kernel_rfl) (fun _ _ _ h => h) (by rfl) (fun w hSw => ?_) (by assumption) ?_
    rotate_left
    · (try dsimp only at hSw); go_simp; try with_reducible rfl
    try simp only [Act.put, List.setIfInBounds_toArray, List.set_cons_zero, List.set_cons_succ]
    refine held_take 1 (oi := _) (v := ?_) rfl (by kernel_rfl) (by kernel_rfl) (by kernel_rfl) (fun _ _ _ h => h) (by rfl) (fun w hSw => ?_) (by assumption) ?_
    rotate_left
    · (try dsimp only at hSw); go_simp; try with_reducible rfl
    try simp only [Act.put, List.setIfInBounds_toArray, List.set_cons_zero, List.set_cons_succ]
    refine held_take 2 (oi := _) (v := ?_) rfl (by kernel_rfl) (by kernel_rfl) (by kernel_rfl) (fun _ _ _ h => h) (by rfl) (fun w hSw => ?_) (by assumption) ?_
    rotate_left
    · (try dsimp only at hSw); go_simp; try with_reducible rfl
    try simp only [Act.put, List.setIfInBounds_toArray, List.set_cons_zero, List.set_cons_succ]
    refine held_take 3 (oi := _) (v := ?_) rfl (by kernel_rfl) (by kernel_rfl) (by kernel_rfl) (fun _ _ _ h => h) (by rfl) (fun w hSw => ?_) (by assumption) ?_
    rotate_left
    · (try dsimp only at hSw); go_simp; try with_reducible rfl
    try simp only [Act.put, List.setIfInBounds_toArray, List.set_cons_zero, List.set_cons_succ]
    refine held_take 4 (oi := _) (v := ?_) rfl (by kernel_rfl) (by kernel_rfl) (by kernel_rfl) (fun _ _ _ h => h) (by rfl) (fun w hSw => ?_) (by assumption) ?_
    rotate_left
    · (try dsimp only at hSw); go_simp; try with_reducible rfl
    try simp only [Act.put, List.setIfInBounds_toArray, List.set_cons_zero, List.set_cons_succ]
    refine wpAnyH_ready (rs := [5]) (by kernel_rfl) (by simp) ?_
    refine held_cons 5 (o := _) rfl (fun KC hKC => ?_) AllReadyH.nil
    go_simp
    with_reducible refine Calls.mono (LEN2.out _ ?_) ?_
    · exact (Kept.refl _ _).twin ⟨rfl, rfl, rfl, rfl⟩
    rintro e1 wB ⟨rfl, kB⟩
    have KB := Lib.hid kB
    obtain ⟨hcr, hfr⟩ := RBX.out _ kB
    clear kB
    dsimp only
    refine hKC.out _ _ ?_ (fun hHeld => ?_)
    · first | exact CELLS.out _ (KB.out.mono fun _ _ e => e.elim) | exact CELLS.out _ ((KB.out.mono fun _ _ e => e.elim).trans (Kept.one_set wB ⟨rb, 0, none⟩ (.bool true)) (fun _ _ e => e))
    clear hKC KC
    try simp only [Act.put, List.setIfInBounds_toArray, List.set_cons_zero, List.set_cons_succ]
    refine held_take 6 (oi := _) (v := ?_) rfl (by kernel_rfl) (by kernel_rfl) (by kernel_rfl) (fun _ _ _ h => h) (by rfl) (fun w hSw => ?_) (by assumption) ?_
    rotate_left
    · (try dsimp only at hSw); go_simp; try with_reducible rfl
    try simp only [Act.put, List.setIfInBounds_toArray, List.set_cons_zero, List.set_cons_succ]
    refine held_take 7 (oi := _) (v := ?_) rfl (by kernel_rfl) (by kernel_rfl) (by kernel_rfl) (fun _ _ _ h => h) (by rfl) (fun w hSw => ?_) (by assumption) ?_
    rotate_left
    · (try dsimp only at hSw); go_simp; try with_reducible rfl
    try simp only [Act.put, List.setIfInBounds_toArray, List.set_cons_zero, List.set_cons_succ]
    refine held_take 8 (oi := _) (v := ?_) rfl (by kernel_rfl) (by kernel_rfl) (by kernel_rfl) (fun _ _ _ h => h) (by rfl) (fun w hSw => ?_) (by assumption) ?_
    rotate_left
    · (try dsimp only at hSw); go_simp; try with_reducible rfl
    try simp only [Act.put, List.setIfInBounds_toArray, List.set_cons_zero, List.set_cons_succ]
    refine wpAnyH_ready (rs := [9]) (by kernel_rfl) (by simp) ?_
    refine held_cons 9 (o := _) rfl (fun KC hKC => ?_) AllReadyH.nil
    go_simp
    refine hKC.out _ _ ?_ (fun hHeld => ?_)
    · first | exact CELLS.out _ (KB.out.mono fun _ _ e => e.elim) | exact CELLS.out _ ((KB.out.mono fun _ _ e => e.elim).trans (Kept.one_set wB ⟨rb, 0, none⟩ (.bool true)) (fun _ _ e => e))
    clear hKC KC
    try simp only [Act.put, List.setIfInBounds_toArray, List.set_cons_zero, List.set_cons_succ]
    refine wpAnyH_done (by kernel_rfl) (NoPanic.normal ?_) _
    gi_wp2_with fail
    obtain ⟨hb9, k9, hdk, hrd, hrb, hdl⟩ := FIN.out
    have ks := Kept.one_set wB ⟨rb, 0, none⟩ (.bool true)
    have kF9 : Kept (fun b => b = rb) W9 (wB.setCell ⟨rb, 0, none⟩ (.bool true)) := (KB.out.mono fun _ _ e => e.elim).trans ks (fun _ _ e => e)
    have hdk2 := (kF9.block dk (Array.getElem?_eq_some_iff.1 hdk).1 (fun e => hrd e.symm)).trans hdk
    refine leaves_marks [dk] _ (by simp) (fun d hd => by rw [List.mem_singleton.1 hd]; exact hdk2) (fun W' kd' => ?_)
    have hb := ((hb9.kept KB.out (fun e => e)).set (.bool true)).kept kd' (fun e => hrd (List.mem_singleton.1 e))
    refine ⟨_, results_box rfl Tryz.underlying4 rfl rfl hb, rfl, ?_⟩
    exact (k9.trans kF9 (fun b hb e => by omega)).trans kd' (fun b hb e => by have := List.mem_singleton.1 e; omega)

  · intro cx dk U3 W9 hi kW hR hmk hdkl hdkU hUU hUn hUl
    obtain ⟨rfl, hi, hcnt⟩ := hi
    clear hR hdkU hUU hUn hUl
    obtain ⟨T, hTN⟩ : ∃ T, nn = T := ⟨_, rfl⟩
    have k59 : Kept (fun b => b = lb ∨ b = cb) w5 W9 := (k6.mono fun _ _ e => e.elim).trans kW (fun b hb e => e)
    have hbx := BX.out
    have bn9 := hbx.1.kept k59 (fun e => by omega)
    have br9 := hbx.2.1.kept k59 (fun e => by omega)
    have hQl : (ordP (smallM kind key value most) P).length = KS.length := by rw [ordP_len, ← HKS.out]; unfold keysP; rw [List.length_map, pairsP_len, HT.out.2]
    have hmin : min (nn : Int) (KS.length : Int) = (T : Int) := by omega
    have D9 := D5.out.keepX k59 (fun b hb => .inl ⟨.inr (by rcases hb with hb | hb <;> omega), by have := HNB.out; omega⟩)
    have LEN2 := Lib.hid (show ∀ W', Kept (fun _ => False) W9 W' → Calls Tryz.prog 31 #[.pointer (some ⟨br, 0, none⟩)] W' fun e w' => e = .returned (.int .i64 (KS.length : Nat)) ∧ Kept (fun _ => False) W9 w' from by
      intro W' kk
      refine (d2_len2 (D9.keep kk)).mono ?_
      rintro e w' ⟨rfl, rfl⟩
      exact ⟨by rw [hQl], kk⟩)
    have RBX := Lib.hid (show ∀ w', Kept (fun _ => False) W9 w' → w'.cell? ⟨rb, 0, none⟩ = some (.bool false) ∧ w'.frozen? ⟨rb, 0, none⟩ = false from fun w' kk => ⟨(br9.kept kk (fun e => e)).cell, (br9.kept kk (fun e => e)).frozen⟩)
    have hbi : Box W9 cb (.int .i64 (T : Int)) := by rw [← hTN]; exact hi.1
    have CELLS := Lib.hid (show ∀ w', Kept (fun b => b = rb) W9 w' → w'.cell? ⟨cb, 0, none⟩ = some (.int .i64 (T : Int)) ∧ w'.cell? ⟨nb, 0, none⟩ = some (.int .i64 (nn : Int)) from
      fun w' kk => ⟨(hbi.kept kk (fun e => by omega)).cell, (bn9.kept kk (fun e => by omega)).cell⟩)
    have FIN := Lib.hid (show Box W9 rb (.bool false) ∧ Kept (fun _ => False) W W9 ∧ W9.heap[dk]? = some (.deferred (some [])) ∧ rb ≠ dk ∧ W.heap.size ≤ rb ∧ W.heap.size ≤ dk from
      ⟨br9, D9.back, hmk, by omega, by have := HNB.out; omega, by have := HNB.out; omega⟩)
    clear D9 bn9 br9 hbi k59 hmk hdkl hQl hbx hnum hz5 hz6 hTN hit hKS hky k6 hkb hnf
    gi_wp2_with fail
    refine wpW_region_held (S := fun w' => w'.cell? ⟨cb, 0, none⟩ = some (.int .i64 (T : Int)) ∧ w'.cell? ⟨nb, 0, none⟩ = some (.int .i64 (nn : Int))) (by kernel_rfl) (by kernel_rfl) (by rintro ⟨_, _, h⟩; first | exact h.elim | (obtain ⟨h1, -⟩ := h; cases h1)) ?_ (fun hHeld => ?_)
    · exact CELLS.out _ ((Kept.refl _ _).twin ⟨rfl, rfl, rfl, rfl⟩)
    refine held_take 0 (oi := _) (v := ?_) rfl (by kernel_rfl) (by kernel_rfl) (by kernel_rfl) (fun _ _ _ h => h) (by rfl) (fun w hSw => ?_) (by assumption) ?_
    rotate_left
    · (try dsimp only at hSw); go_simp; try with_reducible rfl
    try simp only [Act.put, List.setIfInBounds_toArray, List.set_cons_zero, List.set_cons_succ]
    refine held_take 1 (oi := _) (v := ?_) rfl (by kernel_rfl) (by kernel_rfl) (by kernel_rfl) (fun _ _ _ h => h) (by rfl) (fun w hSw => ?_) (by assumption) ?_
    rotate_left
    · (try dsimp only at hSw); go_simp; try with_reducible rfl
    try simp only [Act.put, List.setIfInBounds_toArray, List.set_cons_zero, List.set_cons_succ]
    refine held_take 2 (oi := _) (v := ?_) rfl (by kernel_rfl) (by kernel_rfl) (by kernel_rfl) (fun _ _ _ h => h) (by rfl) (fun w hSw => ?_) (by assumption) ?_
    rotate_left
    · (try dsimp only at hSw); go_simp; try with_reducible rfl
    try simp only [Act.put, List.setIfInBounds_toArray, List.set_cons_zero, List.set_cons_succ]
    refine held_take 3 (oi := _) (v := ?_) rfl (by kernel_rfl) (by kernel_rfl) (by kernel_rfl) (fun _ _ _ h => h) (by rfl) (fun w hSw => ?_) (by assumption) ?_
    rotate_left
    · (try dsimp only at hSw); go_simp; try with_reducible rfl
    try simp only [Act.put, List.setIfInBounds_toArray, List.set_cons_zero, List.set_cons_succ]
    refine held_take 4 (oi := _) (v := ?_) rfl (by kernel_rfl) (by kernel_rfl) (by kernel_rfl) (fun _ _ _ h => h) (by rfl) (fun w hSw => ?_) (by assumption) ?_
    rotate_left
    · (try dsimp only at hSw); go_simp; try with_reducible rfl
    try simp only [Act.put, List.setIfInBounds_toArray, List.set_cons_zero, List.set_cons_succ]
    refine wpAnyH_ready (rs := [5]) (by kernel_rfl) (by simp) ?_
    refine held_cons 5 (o := _) rfl (fun KC hKC => ?_) AllReadyH.nil
    go_simp
    with_reducible refine Calls.mono (LEN2.out _ ?_) ?_
    · exact (Kept.refl _ _).twin ⟨rfl, rfl, rfl, rfl⟩
    rintro e1 wB ⟨rfl, kB⟩
    have KB := Lib.hid kB
    obtain ⟨hcr, hfr⟩ := RBX.out _ kB
    clear kB
    dsimp only
    refine hKC.out _ _ ?_ (fun hHeld => ?_)
    · first | exact CELLS.out _ (KB.out.mono fun _ _ e => e.elim) | exact CELLS.out _ ((KB.out.mono fun _ _ e => e.elim).trans (Kept.one_set wB ⟨rb, 0, none⟩ (.bool true)) (fun _ _ e => e))
    clear hKC KC
    try simp only [Act.put, List.setIfInBounds_toArray, List.set_cons_zero, List.set_cons_succ]
    refine held_take 6 (oi := _) (v := ?_) rfl (by kernel_rfl) (by kernel_rfl) (by kernel_rfl) (fun _ _ _ h => h) (by rfl) (fun w hSw => ?_) (by assumption) ?_
    rotate_left
    · (try dsimp only at hSw); go_simp; try with_reducible rfl
    try simp only [Act.put, List.setIfInBounds_toArray, List.set_cons_zero, List.set_cons_succ]
    refine held_take 7 (oi := _) (v := ?_) rfl (by kernel_rfl) (by kernel_rfl) (by kernel_rfl) (fun _ _ _ h => h) (by rfl) (fun w hSw => ?_) (by assumption) ?_
    rotate_left
    · (try dsimp only at hSw); go_simp; try with_reducible rfl
    try simp only [Act.put, List.setIfInBounds_toArray, List.set_cons_zero, List.set_cons_succ]
    refine held_take 8 (oi := _) (v := ?_) rfl (by kernel_rfl) (by kernel_rfl) (by kernel_rfl) (fun _ _ _ h => h) (by rfl) (fun w hSw => ?_) (by assumption) ?_
    rotate_left
    · (try dsimp only at hSw); go_simp; try with_reducible rfl
    try simp only [Act.put, List.setIfInBounds_toArray, List.set_cons_zero, List.set_cons_succ]
    refine wpAnyH_ready (rs := [9]) (by kernel_rfl) (by simp) ?_
    refine held_cons 9 (o := _) rfl (fun KC hKC => ?_) AllReadyH.nil
    go_simp
    refine hKC.out _ _ ?_ (fun hHeld => ?_)
    · first | exact CELLS.out _ (KB.out.mono fun _ _ e => e.elim) | exact CELLS.out _ ((KB.out.mono fun _ _ e => e.elim).trans (Kept.one_set wB ⟨rb, 0, none⟩ (.bool true)) (fun _ _ e => e))
    clear hKC KC
    try simp only [Act.put, List.setIfInBounds_toArray, List.set_cons_zero, List.set_cons_succ]
    refine wpAnyH_done (by kernel_rfl) (NoPanic.normal ?_) _
    gi_wp2_with fail
    obtain ⟨hb9, k9, hdk, hrd, hrb, hdl⟩ := FIN.out
    have ks := Kept.one_set wB ⟨rb, 0, none⟩ (.bool true)
    have kF9 : Kept (fun b => b = rb) W9 (wB.setCell ⟨rb, 0, none⟩ (.bool true)) := (KB.out.mono fun _ _ e => e.elim).trans ks (fun _ _ e => e)
    have hdk2 := (kF9.block dk (Array.getElem?_eq_some_iff.1 hdk).1 (fun e => hrd e.symm)).trans hdk
    refine leaves_marks [dk] _ (by simp) (fun d hd => by rw [List.mem_singleton.1 hd]; exact hdk2) (fun W' kd' => ?_)
    have hb := ((hb9.kept KB.out (fun e => e)).set (.bool true)).kept kd' (fun e => hrd (List.mem_singleton.1 e))
    refine ⟨_, results_box rfl Tryz.underlying4 rfl rfl hb, rfl, ?_⟩
    exact (k9.trans kF9 (fun b hb e => by omega)).trans kd' (fun b hb e => by have := List.mem_singleton.1 e; omega)

end Go.Proofs.YtjkgimloafpipaaGreat
