/- ScanBack, walked. -/
import Derived.Test.YtjkgimloafpipaaGreatSizesWalk
import Derived.Test.YtjkgimloafpipaaGreatBatchesWalk
import Derived.Test.YtjkgimloafpipaaGreatThree
import Derived.Test.YtjkgimloafpipaaGreatHeld
namespace Go.Proofs.YtjkgimloafpipaaGreat
set_option linter.unusedVariables false
set_option linter.unusedSimpArgs false
open Go.RowKit Go.MapKept Go.Deep

theorem nums_byte (b : ByteArray) {i : Nat} (h : i < b.size) : 0 ≤ (nums b).getD i 0 ∧ (nums b).getD i 0 ≤ 255 := by
  unfold nums
  have h' : i < b.data.toList.length := by simpa using h
  rw [List.getD_eq_getElem?_getD, List.getElem?_map, List.getElem?_eq_getElem h']
  show (0 : Int) ≤ ((b.data.toList[i]).toNat : Int) ∧ ((b.data.toList[i]).toNat : Int) ≤ 255
  have := (b.data.toList[i]).toNat_lt
  omega
theorem key_inj {E : List En} (hn : (E.map (·.key)).Nodup) {x z : En} (hx : x ∈ E) (hz : z ∈ E) (h : x.key = z.key) : x = z := by
  induction E with
  | nil => cases hx
  | cons y E ih =>
    rw [List.map_cons, List.nodup_cons] at hn
    rcases List.mem_cons.1 hx with rfl | hx' <;> rcases List.mem_cons.1 hz with rfl | hz'
    · rfl
    · exact absurd (by rw [h]; exact List.mem_map.2 ⟨z, hz', rfl⟩) hn.1
    · exact absurd (by rw [← h]; exact List.mem_map.2 ⟨x, hx', rfl⟩) hn.1
    · exact ih hn.2 hx' hz'
theorem Tb.data_ne {W : World} {bt : Nat} {m : TM} {iv : Value} {E : List En} {F : Nat → Prop} (h : Tb W bt m iv E F) {x z : En} (hx : x ∈ E) (hz : z ∈ E) : x.d ≠ z.b ∧ (z ≠ x → z.d ≠ x.d) := by
  by_cases hk : z.key = x.key
  · have e := key_inj h.keys hz hx hk
    subst e
    exact ⟨fun e => (blocks_ne h.blocks hz hz).1 e.symm, fun e => absurd rfl e⟩
  · have := (blocks_ne h.blocks hx hz).2 hk
    exact ⟨fun e => this.1 e.symm, fun _ => this.2.1⟩
/-- An entry's bytes. -/
def DatAt (W : World) (y : En) : Prop := RowM W y.d y.c ∧ ∀ i, i < y.data.size → W.cell? ⟨y.d, i, none⟩ = some (.int .u8 ((nums y.data).getD i 0))
theorem DatAt.kept {W W' : World} {y : En} {S : Nat → Prop} (h : DatAt W y) (k : Kept S W W') (hn : ¬ S y.d) : DatAt W' y :=
  ⟨h.1.kept k hn, fun i hi => (k.cell (p := ⟨y.d, i, none⟩) h.1.lt hn).trans (h.2 i hi)⟩
/-- What the rounds know: the first table has the same pairs; the entries that are to come are as they were. -/
def BkI (m : TM) (bt : Nat) (P : List Pr) (Ft : Nat → Prop) (E : List En) (pre : List En) (U : Nat → Prop) (W : World) : Prop :=
  (∃ Pt, Ses m bt Pt Ft W ∧ SameP P Pt) ∧ (∀ y ∈ E, y ∉ pre → DatAt W y) ∧ ∀ b, (Ft b ∨ ∃ y ∈ E, b = y.d) → U b
theorem BkI.kept {m : TM} {bt : Nat} {P : List Pr} {Ft : Nat → Prop} {E pre : List En} {U : Nat → Prop} {W W' : World} (h : BkI m bt P Ft E pre U W) (q : Kept (fun b => ¬ U b) W W') : BkI m bt P Ft E pre U W' := by
  obtain ⟨⟨Pt, h1, h2⟩, h3, h4⟩ := h
  exact ⟨⟨Pt, h1.kept q (fun b hb e => e (h4 b (.inl hb))), h2⟩, fun y hy hn => (h3 y hy hn).kept q (fun e => e (h4 _ (.inr ⟨y, hy, rfl⟩))), h4⟩
set_option maxRecDepth 100000 in
set_option maxHeartbeats 4000000 in
theorem scanBack_any (kind key value most : Int) (a : Option Addr) (n c : Nat) (ss : Nat → Pr) (W : World) (hs : Puts W a n ss) (hn : n ≤ 9223372036854775807) :
    Calls Tryz.prog 8 #[.int .i64 kind, .int .i64 key, .int .i64 value, .int .i64 most, .slice a n c] W fun e w' => e = .returned (.bool true) ∧ Kept (fun _ => False) W w' := by
  have HS := Lib.hid hs
  clear hs
  refine callsIn_WR (ro := none) (n := 0).1 (callsIn_of_wp_marks Tryz.func8 rfl trivial ?_ rfl)
  simp only [Tryz.ntmps8, List.size_toArray, List.length_cons, List.length_nil, Nat.reduceAdd, Nat.reduceSub, Array.replicate_succ, Array.replicate_zero, List.push_toArray, List.append_toArray, List.nil_append, List.cons_append]
  gi_wp2_with fail
  obtain ⟨W1, hW1⟩ : ∃ W1, W.alloc (.cells #[.bool false] 4) = W1 := ⟨_, rfl⟩
  obtain ⟨rb, hrb⟩ : ∃ rb, W.heap.size = rb := ⟨_, rfl⟩
  have RB := Lib.hid (show Box W1 rb (.bool false) ∧ Kept (fun _ => False) W W1 ∧ W.heap.size ≤ rb from ⟨by rw [← hW1, ← hrb]; exact Box.new _ _ _, by rw [← hW1]; exact Kept.one_alloc _ _, by omega⟩)
  rw [hW1, hrb]
  clear hW1 hrb
  refine callsIn_WR.2 ((shown_any W1).mono ?_)
  rintro e w1 ⟨rfl, k1⟩
  have K1 := Lib.hid k1
  have MD := Lib.hid (made11_any kind key value most a n c ss w1 (fun i hi => by
    obtain ⟨b, o, e, hb, hp⟩ := HS.out i hi
    have kk := RB.out.2.1.trans k1 (fun _ _ e => e)
    exact ⟨b, o, e, Nat.lt_of_lt_of_le hb kk.size, hp.kept hb kk (fun e => e)⟩) hn)
  clear k1
  gi_wp2_with fail
  refine callsIn_WR.2 (MD.out.mono ?_)
  rintro e w2 ⟨bt, br, P, rfl, hd⟩
  have hmr := (small_right kind key value most)
  generalize smallM kind key value most = m at hd hmr
  obtain ⟨Ft, Fr, hses, hrses, -, hfl⟩ := hd.ex
  obtain ⟨w3, hw3⟩ : ∃ w3, w2.alloc (.cells #[.pointer (some ⟨bt, 0, none⟩)] 27) = w3 := ⟨_, rfl⟩
  obtain ⟨tb, htb⟩ : ∃ tb, w2.heap.size = tb := ⟨_, rfl⟩
  have k23 : Kept (fun _ => False) w2 w3 := by rw [← hw3]; exact Kept.one_alloc _ _
  have BT := Lib.hid (show Box w3 tb (.pointer (some ⟨bt, 0, none⟩)) from by rw [← hw3, ← htb]; exact Box.new _ _ _)
  have SE := Lib.hid (And.intro (hses.keep k23) (And.intro (hrses.keep k23) (show ∀ b, Ft b → w1.heap.size ≤ b ∧ b < tb from fun b hb => by have := hfl b (.inl hb); rw [← htb]; exact ⟨this.1, this.2.1⟩)))
  have KW3 := Lib.hid (show Kept (fun _ => False) W w3 ∧ Box w3 rb (.bool false) ∧ rb < tb from
    ⟨((RB.out.2.1.trans K1.out (fun _ _ e => e)).trans hd.back (fun _ _ e => e)).trans k23 (fun _ _ e => e), ((RB.out.1.kept K1.out (fun e => e)).kept hd.back (fun e => e)).kept k23 (fun e => e), by rw [← htb]; exact ((RB.out.1.kept K1.out (fun e => e)).kept hd.back (fun e => e)).lt⟩)
  have HMR := Lib.hid hmr
  obtain ⟨P', hP1, hP2⟩ := resP_back hmr.1 hses.nodup hses.sizes hses.len hses.arr
  have hsmall := snap_small hses.sizes hmr.1 hses.len
  have hperm : SameP P P' := ⟨((ordP_perm m P').symm.trans (by rw [hP2])).trans (ordP_perm m P), by
    have h : ((ordP m P').map (·.1)).Nodup := by rw [hP2]; exact ordP_nodup hses.nodup
    exact (((ordP_perm m P').map _).nodup_iff).1 h⟩
  have HP := Lib.hid (And.intro hP1 (And.intro hP2 hperm))
  have SP0 := Lib.hid (show SameP P P from ⟨.refl _, hses.nodup⟩)
  obtain ⟨S0, hS0⟩ : ∃ S0, snapB (ordP m P) = S0 := ⟨_, rfl⟩
  rw [hS0] at hsmall
  have HS0 := Lib.hid hS0
  have hct := BT.out.cell
  rw [← hw3, ← htb] at hct
  have HW3 := Lib.hid (And.intro hw3 htb)
  clear MD hd hses hrses hfl k23 hP1 hP2 hperm hS0 hmr hw3 htb
  gi_wp2_with fail
  rw [HW3.out.2]
  rw [HW3.out.1]
  clear hct
  refine callsIn_WR.2 ((ses_snap SE.out.1).mono ?_)
  rintro e w4 ⟨sv, rfl, hob, k4⟩
  rw [HS0.out] at hob
  obtain ⟨sa, sc, rfl, hsc, hsb, -⟩ := hob.form
  have S4 := Lib.hid (And.intro hsb (And.intro hsc k4))
  have CONV := Lib.hid (show ∀ w', Kept (fun _ => False) w4 w' → (convert 23 9 (.slice sa S0.size sc)).run Tryz.prog w' = .ok (.string S0) w' from fun w' kk => (S4.out.1.kept kk (fun _ _ _ e => e)).conv)
  have RS := Lib.hid (show ∀ W', Kept (fun _ => False) w4 W' → Calls Tryz.prog 14 #[.pointer (some ⟨br, 0, none⟩)] W' fun e w' => e = .returned (.string S0) ∧ Kept (fun _ => False) w4 w' from by
    intro W' kk
    rw [← HS0.out]
    refine (rses_snap ((SE.out.2.1.keep S4.out.2.2).keep kk)).mono ?_
    rintro e w' ⟨rfl, h2⟩
    exact ⟨rfl, kk.trans h2 (fun _ _ e => e)⟩)
  have hself : (S0.toList == S0.toList) = true := bytes_self _
  clear hob hsb hsc k4
  gi_wp2_with fail
  refine wpW_region_held (S := fun w' => (convert 23 9 (.slice sa S0.size sc)).run Tryz.prog w' = .ok (.string S0) w') (by kernel_rfl) (by kernel_rfl) (by rintro ⟨_, _, h⟩; first | exact h.elim | (obtain ⟨h1, -⟩ := h; cases h1)) ?_ (fun hHeld => ?_)
  · exact CONV.out _ ((Kept.refl _ _).twin ⟨rfl, rfl, rfl, rfl⟩)
  refine held_take 0 (oi := _) (v := ?_) rfl (by kernel_rfl) (by kernel_rfl) (by kernel_rfl) (fun _ _ _ h => h) (by rfl) (fun w hSw => ?_) (by assumption) ?_
  rotate_left
  · (try dsimp only at hSw); go_simp; try with_reducible rfl
  try simp only [Act.put, List.setIfInBounds_toArray, List.set_cons_zero, List.set_cons_succ]
  refine held_take 1 (oi := _) (v := ?_) rfl (by kernel_rfl) (by kernel_rfl) (by kernel_rfl) (fun _ _ _ h => h) (by rfl) (fun w hSw => ?_) (by assumption) ?_
  rotate_left
  · (try dsimp only at hSw); go_simp; try with_reducible rfl
  try simp only [Act.put, List.setIfInBounds_toArray, List.set_cons_zero, List.set_cons_succ]
  refine held_take 2 (oi := _) (v := ?_) rfl (by kernel_rfl) (by kernel_rfl) (by kernel_rfl) (fun _ _ _ h => h) (by rfl) (fun w hSw => ?_) (by assumption) ?_
  rotate_left
  · (try dsimp only at hSw); go_simp; try with_reducible rfl
  try simp only [Act.put, List.setIfInBounds_toArray, List.set_cons_zero, List.set_cons_succ]
  refine wpAnyH_ready (rs := [3]) (by kernel_rfl) (by simp) ?_
  refine held_cons 3 (o := _) rfl (fun KC hKC => ?_) AllReadyH.nil
  go_simp
  with_reducible refine Calls.mono (RS.out _ ?_) ?_
  · exact (Kept.refl _ _).twin ⟨rfl, rfl, rfl, rfl⟩
  rintro e1 wA ⟨rfl, kX⟩
  have KA := Lib.hid kX
  clear kX
  dsimp only
  refine hKC.out _ _ ?_ (fun hHeld => ?_)
  · first | exact CONV.out _ KA.out
  clear hKC KC
  try simp only [Act.put, List.setIfInBounds_toArray, List.set_cons_zero, List.set_cons_succ]
  refine held_take 4 (oi := _) (v := ?_) rfl (by kernel_rfl) (by kernel_rfl) (by kernel_rfl) (fun _ _ _ h => h) (by rfl) (fun w hSw => ?_) (by assumption) ?_
  rotate_left
  · (try dsimp only at hSw); go_simp; try with_reducible rfl
  try simp only [Act.put, List.setIfInBounds_toArray, List.set_cons_zero, List.set_cons_succ]
  refine wpAnyH_done (by kernel_rfl) (NoPanic.normal ?_) _
  have hct := ((BT.out.kept S4.out.2.2 (fun e => e)).kept KA.out (fun e => e)).cell
  gi_wp2_with fail
  refine callsIn_WR.2 ((ses_map ((SE.out.1.keep S4.out.2.2).keep KA.out)).mono ?_)
  rintro e w6 ⟨rfl, k6⟩
  have K46 := Lib.hid (KA.out.trans k6 (fun _ _ e => e))
  have SRC := Lib.hid (show Holds9 (w6.alloc (.cells #[] 5)) sa (byteVs S0) from (S4.out.1.kept (K46.out.trans (Kept.one_alloc w6 _) (fun _ _ e => e)) (fun _ _ _ e => e)).src)
  have OWN := Lib.hid (own_empty_at (size := 1) (heap_alloc_new w6 (.cells #[] 5)))
  have hfe : ∀ u ∈ byteVs S0, u.oneCell' = true := byteVs_one S0
  have HFE := Lib.hid hfe
  clear k6 hct hfe
  gi_wp2_with (first
    | (gi_at_builtin; refine wpListW_append_mine rfl _ _ byteE rfl rfl OWN.out sa S0.size sc (byteVs S0) rfl (by rw [byteVs_len, Nat.mul_one]) SRC.out HFE.out (by unfold maxLen; omega) (by omega) ?_
       intro a1 c1 w7 h2 h3 h4
       go_frame)
    | (rw [Oper.semAt_eq _ _ _ (fun c h => by cases h)]; go_simp; try go_bits))
  rw [Nat.zero_add] at h2 h4 ⊢
  simp only [List.nil_append] at h2
  have F0 : ∀ b, (Value.slice (some ⟨w6.heap.size, 0, none⟩) 0 0).ownBlock = some b → w6.heap.size ≤ b := own_fresh (Nat.le_refl _)
  have k67 : Kept (fun _ => False) w6 w7 := kept_own (Kept.one_alloc w6 _) F0 h3
  have K47 := Lib.hid (K46.out.trans k67 (fun _ _ e => e))
  obtain ⟨a1', c1', e, -, -, hc1⟩ := own_form h2
  simp only [Value.slice.injEq, true_and] at e
  obtain ⟨e1, e2⟩ := e
  subst e1
  subst e2
  have RES := Lib.hid (ses_restore m (own_bytesAt h2 rfl) hc1 hsmall)
  clear h2 h3 h4 F0 k67 hc1
  refine callsIn_WR.2 (RES.out.mono ?_)
  rintro e w8 ⟨k8, hp⟩
  rw [← HS0.out, HP.out.1] at hp
  obtain ⟨bu, rfl, hu⟩ := hp
  have K48 := Lib.hid (K47.out.trans k8 (fun _ _ e => e))
  have HU := Lib.hid hu
  have K7 := Lib.hid (And.intro K47.out.size k8.size)
  clear RES k8 hu
  have ST8 := Lib.hid ((SE.out.1.keep S4.out.2.2).keep K48.out)
  have BT8 := Lib.hid ((BT.out.kept S4.out.2.2 (fun e => e)).kept K48.out (fun e => e))
  obtain ⟨NP, hNP⟩ : ∃ NP, P.length = NP := ⟨_, rfl⟩
  have HNP := Lib.hid (And.intro hNP (show P'.length = NP by rw [HP.out.2.2.len, hNP]))
  obtain ⟨nm, kd, ks, vs, mx⟩ := m
  obtain ⟨m, hm⟩ : ∃ m : TM, m = ⟨nm, kd, ks, vs, mx⟩ := ⟨_, rfl⟩
  rw [← hm] at HMR HU ST8 HP SE HS0
  have HM := Lib.hid hm
  clear hNP hm
  have LENU := Lib.hid (show ∀ W', Kept (fun _ => False) w8 W' → Calls Tryz.prog 20 #[.pointer (some ⟨bu, 0, none⟩)] W' fun e w' => e = .returned (.int .i64 (NP : Nat)) ∧ Kept (fun _ => False) w8 w' from by
    intro W' kk
    refine (ses_len (HU.out.keep kk)).mono ?_
    rintro e w' ⟨rfl, k'⟩
    exact ⟨by rw [HNP.out.2], kk.trans k' (fun _ _ e => e)⟩)
  have LENT := Lib.hid (show ∀ W', Kept (fun _ => False) w8 W' → Calls Tryz.prog 20 #[.pointer (some ⟨bt, 0, none⟩)] W' fun e w' => e = .returned (.int .i64 (NP : Nat)) ∧ Kept (fun _ => False) w8 w' from by
    intro W' kk
    refine (ses_len (ST8.out.keep kk)).mono ?_
    rintro e w' ⟨rfl, k'⟩
    exact ⟨by rw [HNP.out.1], kk.trans k' (fun _ _ e => e)⟩)
  have hv : m.v = .agg #[.string nm, .int .i64 kd, .int .i64 ks, .int .i64 vs, .int .i64 mx] := by rw [HM.out]; rfl
  have MAPU := Lib.hid (show ∀ W', Kept (fun _ => False) w8 W' → Calls Tryz.prog 15 #[.pointer (some ⟨bu, 0, none⟩)] W' fun e w' => e = .returned (.agg #[.string nm, .int .i64 kd, .int .i64 ks, .int .i64 vs, .int .i64 mx]) ∧ Kept (fun _ => False) w8 w' from by
    intro W' kk
    refine (ses_map (HU.out.keep kk)).mono ?_
    rintro e w' ⟨rfl, k'⟩
    exact ⟨by rw [hv], kk.trans k' (fun _ _ e => e)⟩)
  have MAPT := Lib.hid (show ∀ W', Kept (fun _ => False) w8 W' → Calls Tryz.prog 15 #[.pointer (some ⟨bt, 0, none⟩)] W' fun e w' => e = .returned (.agg #[.string nm, .int .i64 kd, .int .i64 ks, .int .i64 vs, .int .i64 mx]) ∧ Kept (fun _ => False) w8 w' from by
    intro W' kk
    refine (ses_map (ST8.out.keep kk)).mono ?_
    rintro e w' ⟨rfl, k'⟩
    exact ⟨by rw [hv], kk.trans k' (fun _ _ e => e)⟩)
  have SNU := Lib.hid (show ∀ W', Kept (fun _ => False) w8 W' → Calls Tryz.prog 18 #[.pointer (some ⟨bu, 0, none⟩)] W' fun e w' => ∃ sv, e = .returned sv ∧ OwnBytes w' W' sv S0 ∧ Kept (fun _ => False) w8 w' from by
    intro W' kk
    rw [← HS0.out, ← HP.out.2.1]
    refine (ses_snap (HU.out.keep kk)).mono ?_
    rintro e w' ⟨sv, rfl, h1, h2⟩
    exact ⟨sv, rfl, h1, kk.trans h2 (fun _ _ e => e)⟩)
  have hnm : (nm.toList == nm.toList) = true := bytes_self _
  have CELLS := Lib.hid (show ∀ w', Kept (fun _ => False) w8 w' → w'.cell? ⟨tb, 0, none⟩ = some (.pointer (some ⟨bt, 0, none⟩)) ∧ (convert 23 9 (.slice sa S0.size sc)).run Tryz.prog w' = .ok (.string S0) w' from fun w' kk => ⟨(BT8.out.kept kk (fun e => e)).cell, CONV.out w' (K48.out.trans kk (fun _ _ e => e))⟩)
  clear hv
  gi_wp2_with fail
  refine wpW_region_held (S := fun w' => w'.cell? ⟨tb, 0, none⟩ = some (.pointer (some ⟨bt, 0, none⟩)) ∧ (convert 23 9 (.slice sa S0.size sc)).run Tryz.prog w' = .ok (.string S0) w') (by kernel_rfl) (by kernel_rfl) (by rintro ⟨_, _, h⟩; first | exact h.elim | (obtain ⟨h1, -⟩ := h; cases h1)) ?_ (fun hHeld => ?_)
  · exact CELLS.out _ ((Kept.refl _ _).twin ⟨rfl, rfl, rfl, rfl⟩)
  refine held_take 0 (oi := _) (v := ?_) rfl (by kernel_rfl) (by kernel_rfl) (by kernel_rfl) (fun _ _ _ h => h) (by rfl) (fun w hSw => ?_) (by assumption) ?_
  rotate_left
  · (try dsimp only at hSw); go_simp; try with_reducible rfl
  try simp only [Act.put, List.setIfInBounds_toArray, List.set_cons_zero, List.set_cons_succ]
  refine held_take 1 (oi := _) (v := ?_) rfl (by kernel_rfl) (by kernel_rfl) (by kernel_rfl) (fun _ _ _ h => h) (by rfl) (fun w hSw => ?_) (by assumption) ?_
  rotate_left
  · (try dsimp only at hSw); go_simp; try with_reducible rfl
  try simp only [Act.put, List.setIfInBounds_toArray, List.set_cons_zero, List.set_cons_succ]
  refine held_take 2 (oi := _) (v := ?_) rfl (by kernel_rfl) (by kernel_rfl) (by kernel_rfl) (fun _ _ _ h => h) (by rfl) (fun w hSw => ?_) (by assumption) ?_
  rotate_left
  · (try dsimp only at hSw); go_simp; try with_reducible rfl
  try simp only [Act.put, List.setIfInBounds_toArray, List.set_cons_zero, List.set_cons_succ]
  refine held_take 3 (oi := _) (v := ?_) rfl (by kernel_rfl) (by kernel_rfl) (by kernel_rfl) (fun _ _ _ h => h) (by rfl) (fun w hSw => ?_) (by assumption) ?_
  rotate_left
  · (try dsimp only at hSw); go_simp; try with_reducible rfl
  try simp only [Act.put, List.setIfInBounds_toArray, List.set_cons_zero, List.set_cons_succ]
  refine held_take 4 (oi := _) (v := ?_) rfl (by kernel_rfl) (by kernel_rfl) (by kernel_rfl) (fun _ _ _ h => h) (by rfl) (fun w hSw => ?_) (by assumption) ?_
  rotate_left
  · (try dsimp only at hSw); go_simp; try with_reducible rfl
  try simp only [Act.put, List.setIfInBounds_toArray, List.set_cons_zero, List.set_cons_succ]
  refine held_take 5 (oi := _) (v := ?_) rfl (by kernel_rfl) (by kernel_rfl) (by kernel_rfl) (fun _ _ _ h => h) (by rfl) (fun w hSw => ?_) (by assumption) ?_
  rotate_left
  · (try dsimp only at hSw); go_simp; try with_reducible rfl
  try simp only [Act.put, List.setIfInBounds_toArray, List.set_cons_zero, List.set_cons_succ]
  refine held_take 6 (oi := _) (v := ?_) rfl (by kernel_rfl) (by kernel_rfl) (by kernel_rfl) (fun _ _ _ h => h) (by rfl) (fun w hSw => ?_) (by assumption) ?_
  rotate_left
  · (try dsimp only at hSw); go_simp; try with_reducible rfl
  try simp only [Act.put, List.setIfInBounds_toArray, List.set_cons_zero, List.set_cons_succ]
  refine held_take 7 (oi := _) (v := ?_) rfl (by kernel_rfl) (by kernel_rfl) (by kernel_rfl) (fun _ _ _ h => h) (by rfl) (fun w hSw => ?_) (by assumption) ?_
  rotate_left
  · (try dsimp only at hSw); go_simp; try with_reducible rfl
  try simp only [Act.put, List.setIfInBounds_toArray, List.set_cons_zero, List.set_cons_succ]
  refine held_take 9 (oi := _) (v := ?_) rfl (by kernel_rfl) (by kernel_rfl) (by kernel_rfl) (fun _ _ _ h => h) (by rfl) (fun w hSw => ?_) (by assumption) ?_
  rotate_left
  · (try dsimp only at hSw); go_simp; try with_reducible rfl
  try simp only [Act.put, List.setIfInBounds_toArray, List.set_cons_zero, List.set_cons_succ]
  refine wpAnyH_ready (rs := [8]) (by kernel_rfl) (by simp) ?_
  refine held_cons 8 (o := _) rfl (fun KC hKC => ?_) AllReadyH.nil
  go_simp
  with_reducible refine Calls.mono (LENU.out _ ?_) ?_
  · exact (Kept.refl _ _).twin ⟨rfl, rfl, rfl, rfl⟩
  rintro e1 wA9 ⟨rfl, kX⟩
  have KKA9 := Lib.hid kX
  clear kX
  dsimp only
  refine hKC.out _ _ ?_ (fun hHeld => ?_)
  · first | exact CELLS.out _ KE.out | exact CELLS.out _ KKD.out | exact CELLS.out _ KKC.out | exact CELLS.out _ KKB.out | exact CELLS.out _ KKA9.out
  clear hKC KC
  try simp only [Act.put, List.setIfInBounds_toArray, List.set_cons_zero, List.set_cons_succ]
  refine wpAnyH_ready (rs := [10]) (by kernel_rfl) (by simp) ?_
  refine held_cons 10 (o := _) rfl (fun KC hKC => ?_) AllReadyH.nil
  go_simp
  with_reducible refine Calls.mono (LENT.out _ ?_) ?_
  · exact KKA9.out
  rintro e1 wB ⟨rfl, kX⟩
  have KKB := Lib.hid kX
  clear kX
  dsimp only
  refine hKC.out _ _ ?_ (fun hHeld => ?_)
  · first | exact CELLS.out _ KE.out | exact CELLS.out _ KKD.out | exact CELLS.out _ KKC.out | exact CELLS.out _ KKB.out | exact CELLS.out _ KKA9.out
  clear hKC KC
  try simp only [Act.put, List.setIfInBounds_toArray, List.set_cons_zero, List.set_cons_succ]
  refine held_take 11 (oi := _) (v := ?_) rfl (by kernel_rfl) (by kernel_rfl) (by kernel_rfl) (fun _ _ _ h => h) (by rfl) (fun w hSw => ?_) (by assumption) ?_
  rotate_left
  · (try dsimp only at hSw); go_simp; try with_reducible rfl
  try simp only [Act.put, List.setIfInBounds_toArray, List.set_cons_zero, List.set_cons_succ]
  refine held_take 12 (oi := _) (v := ?_) rfl (by kernel_rfl) (by kernel_rfl) (by kernel_rfl) (fun _ _ _ h => h) (by rfl) (fun w hSw => ?_) (by assumption) ?_
  rotate_left
  · (try dsimp only at hSw); go_simp; try with_reducible rfl
  try simp only [Act.put, List.setIfInBounds_toArray, List.set_cons_zero, List.set_cons_succ]
  refine held_take 13 (oi := _) (v := ?_) rfl (by kernel_rfl) (by kernel_rfl) (by kernel_rfl) (fun _ _ _ h => h) (by rfl) (fun w hSw => ?_) (by assumption) ?_
  rotate_left
  · (try dsimp only at hSw); go_simp; try with_reducible rfl
  try simp only [Act.put, List.setIfInBounds_toArray, List.set_cons_zero, List.set_cons_succ]
  refine held_take 14 (oi := _) (v := ?_) rfl (by kernel_rfl) (by kernel_rfl) (by kernel_rfl) (fun _ _ _ h => h) (by rfl) (fun w hSw => ?_) (by assumption) ?_
  rotate_left
  · (try dsimp only at hSw); go_simp; try with_reducible rfl
  try simp only [Act.put, List.setIfInBounds_toArray, List.set_cons_zero, List.set_cons_succ]
  refine held_take 16 (oi := _) (v := ?_) rfl (by kernel_rfl) (by kernel_rfl) (by kernel_rfl) (fun _ _ _ h => h) (by rfl) (fun w hSw => ?_) (by assumption) ?_
  rotate_left
  · (try dsimp only at hSw); go_simp; try with_reducible rfl
  try simp only [Act.put, List.setIfInBounds_toArray, List.set_cons_zero, List.set_cons_succ]
  refine wpAnyH_ready (rs := [15]) (by kernel_rfl) (by simp) ?_
  refine held_cons 15 (o := _) rfl (fun KC hKC => ?_) AllReadyH.nil
  go_simp
  with_reducible refine Calls.mono (MAPU.out _ ?_) ?_
  · exact KKB.out
  rintro e1 wC ⟨rfl, kX⟩
  have KKC := Lib.hid kX
  clear kX
  dsimp only
  refine hKC.out _ _ ?_ (fun hHeld => ?_)
  · first | exact CELLS.out _ KE.out | exact CELLS.out _ KKD.out | exact CELLS.out _ KKC.out | exact CELLS.out _ KKB.out | exact CELLS.out _ KKA9.out
  clear hKC KC
  try simp only [Act.put, List.setIfInBounds_toArray, List.set_cons_zero, List.set_cons_succ]
  refine wpAnyH_ready (rs := [17]) (by kernel_rfl) (by simp) ?_
  refine held_cons 17 (o := _) rfl (fun KC hKC => ?_) AllReadyH.nil
  go_simp
  with_reducible refine Calls.mono (MAPT.out _ ?_) ?_
  · exact KKC.out
  rintro e1 wD ⟨rfl, kX⟩
  have KKD := Lib.hid kX
  clear kX
  dsimp only
  refine hKC.out _ _ ?_ (fun hHeld => ?_)
  · first | exact CELLS.out _ KE.out | exact CELLS.out _ KKD.out | exact CELLS.out _ KKC.out | exact CELLS.out _ KKB.out | exact CELLS.out _ KKA9.out
  clear hKC KC
  try simp only [Act.put, List.setIfInBounds_toArray, List.set_cons_zero, List.set_cons_succ]
  refine held_take 18 (oi := _) (v := ?_) rfl (by kernel_rfl) (by kernel_rfl) (by kernel_rfl) (fun _ _ _ h => h) (by rfl) (fun w hSw => ?_) (by assumption) ?_
  rotate_left
  · (try dsimp only at hSw); go_simp; try with_reducible rfl
  try simp only [Act.put, List.setIfInBounds_toArray, List.set_cons_zero, List.set_cons_succ]
  refine held_take 19 (oi := _) (v := ?_) rfl (by kernel_rfl) (by kernel_rfl) (by kernel_rfl) (fun _ _ _ h => h) (by rfl) (fun w hSw => ?_) (by assumption) ?_
  rotate_left
  · (try dsimp only at hSw); go_simp; try with_reducible rfl
  try simp only [Act.put, List.setIfInBounds_toArray, List.set_cons_zero, List.set_cons_succ]
  refine held_take 20 (oi := _) (v := ?_) rfl (by kernel_rfl) (by kernel_rfl) (by kernel_rfl) (fun _ _ _ h => h) (by rfl) (fun w hSw => ?_) (by assumption) ?_
  rotate_left
  · (try dsimp only at hSw); go_simp; try with_reducible rfl
  try simp only [Act.put, List.setIfInBounds_toArray, List.set_cons_zero, List.set_cons_succ]
  refine held_take 21 (oi := _) (v := ?_) rfl (by kernel_rfl) (by kernel_rfl) (by kernel_rfl) (fun _ _ _ h => h) (by rfl) (fun w hSw => ?_) (by assumption) ?_
  rotate_left
  · (try dsimp only at hSw); go_simp; try with_reducible rfl
  try simp only [Act.put, List.setIfInBounds_toArray, List.set_cons_zero, List.set_cons_succ]
  refine held_take 24 (oi := _) (v := ?_) rfl (by kernel_rfl) (by kernel_rfl) (by kernel_rfl) (fun _ _ _ h => h) (by rfl) (fun w hSw => ?_) (by assumption) ?_
  rotate_left
  · (try dsimp only at hSw); go_simp; try with_reducible rfl
  try simp only [Act.put, List.setIfInBounds_toArray, List.set_cons_zero, List.set_cons_succ]
  refine held_take 25 (oi := _) (v := ?_) rfl (by kernel_rfl) (by kernel_rfl) (by kernel_rfl) (fun _ _ _ h => h) (by rfl) (fun w hSw => ?_) (by assumption) ?_
  rotate_left
  · (try dsimp only at hSw); go_simp; try with_reducible rfl
  try simp only [Act.put, List.setIfInBounds_toArray, List.set_cons_zero, List.set_cons_succ]
  refine wpAnyH_ready (rs := [22]) (by kernel_rfl) (by simp) ?_
  refine held_cons 22 (o := _) rfl (fun KC hKC => ?_) AllReadyH.nil
  go_simp
  with_reducible refine Calls.mono (SNU.out _ ?_) ?_
  · exact KKD.out
  rintro e1 wE ⟨vE, rfl, hsX, kX⟩
  obtain ⟨aE, cE, rfl, -, hyX, -⟩ := hsX.form
  have hcE := hyX.conv (c := cE)
  have KE := Lib.hid kX
  clear hsX hyX kX
  dsimp only
  refine hKC.out _ _ ?_ (fun hHeld => ?_)
  · first | exact CELLS.out _ KE.out | exact CELLS.out _ KKD.out | exact CELLS.out _ KKC.out | exact CELLS.out _ KKB.out | exact CELLS.out _ KKA9.out
  clear hKC KC
  try simp only [Act.put, List.setIfInBounds_toArray, List.set_cons_zero, List.set_cons_succ]
  refine wpAnyH_ready (rs := [23]) (by kernel_rfl) (by simp) ?_
  refine held_cons 23 (o := _) rfl (fun KC hKC => ?_) AllReadyH.nil
  go_simp
  refine hKC.out _ _ ?_ (fun hHeld => ?_)
  · first | exact CELLS.out _ KE.out | exact CELLS.out _ KKD.out | exact CELLS.out _ KKC.out | exact CELLS.out _ KKB.out | exact CELLS.out _ KKA9.out
  clear hKC KC
  try simp only [Act.put, List.setIfInBounds_toArray, List.set_cons_zero, List.set_cons_succ]
  refine held_take 26 (oi := _) (v := ?_) rfl (by kernel_rfl) (by kernel_rfl) (by kernel_rfl) (fun _ _ _ h => h) (by rfl) (fun w hSw => ?_) (by assumption) ?_
  rotate_left
  · (try dsimp only at hSw); go_simp; try with_reducible rfl
  try simp only [Act.put, List.setIfInBounds_toArray, List.set_cons_zero, List.set_cons_succ]
  refine held_take 27 (oi := _) (v := ?_) rfl (by kernel_rfl) (by kernel_rfl) (by kernel_rfl) (fun _ _ _ h => h) (by rfl) (fun w hSw => ?_) (by assumption) ?_
  rotate_left
  · (try dsimp only at hSw); go_simp; try with_reducible rfl
  try simp only [Act.put, List.setIfInBounds_toArray, List.set_cons_zero, List.set_cons_succ]
  refine wpAnyH_done (by kernel_rfl) (NoPanic.normal ?_) _
  gi_wp2_with fail
  refine callsIn_WR.2 ((all_any bu wE).mono ?_)
  rintro e w10 ⟨bx, rfl, hbox, k10, hbx⟩
  have hnf := run_eq_nilFunc (P := Tryz.prog) w10 (.func 39) #[] #[.pointer (some ⟨bx, 0, none⟩)] Tryz.underlying42
  obtain ⟨iv, E, F, hT, hPE, hF⟩ := HU.out
  have k810 : Kept (fun _ => False) w8 w10 := KE.out.trans k10 (fun _ _ e => e)
  have HT := Lib.hid (And.intro (hT.kept k810 (fun _ _ e => e)) (And.intro hPE (show ∀ b, Tfp bu E F b → w7.heap.size ≤ b ∧ b < w8.heap.size from fun b hb => hF b hb)))
  have H10 := Lib.hid (And.intro hbox (And.intro k810 (show wE.heap.size ≤ bx from hbx)))
  clear hT hPE hF k810 hbox k10 hbx
  gi_wp2_with fail
  obtain ⟨hbox, k810, hbx⟩ := H10.out
  have hRd : AllRd bx bu m iv E F w10 := ⟨hbox.cell, hbox.lt, HT.out.1.allR⟩
  have hDl : ∀ b, AllD bu E F b → w7.heap.size ≤ b ∧ b < w8.heap.size := fun b hb => HT.out.2.2 b (hb.imp id (fun h => h.imp id (fun ⟨x, hx, e⟩ => ⟨x, hx, .inl e⟩)))
  have hFt : ∀ b, Ft b → b < tb := fun b hb => (SE.out.2.2 b hb).2
  have htb7 : tb < w7.heap.size := Nat.lt_of_lt_of_le ((BT.out.kept S4.out.2.2 (fun e => e))).lt K7.out.1
  have hEs := KE.out.size
  have hST10 : Ses m bt P Ft w10 := ST8.out.keep k810
  have hdl : ∀ y ∈ E, w7.heap.size ≤ y.d ∧ y.d < w8.heap.size := fun y hy => HT.out.2.2 _ (.inr (.inr ⟨y, hy, .inr rfl⟩))
  have FAR := Lib.hid (And.intro hFt (And.intro htb7 (And.intro hEs (And.intro hdl hDl))))
  refine wpW_rangeG (all1_any bx bu m iv E F) rfl all_enters (fun _ => by rfl) (fun (pre : List En) U W' => BkI m bt P Ft E pre U W') (fun _ _ _ => False) (fun b => Ft b ∨ ∃ y ∈ E, b = y.d)
    (fun (pre : List En) U W W' h k => BkI.kept h k) (fun _ _ _ _ h _ => h) ?_ ?_ ?_ hRd (fun W W' h k => h.kept k (fun e => e (.inl rfl)) (fun b hb e => e (.inr hb))) ⟨⟨P, hST10, SP0.out⟩, fun y hy _ => ⟨(HT.out.1.en y hy).drow, (HT.out.1.en y hy).bytes⟩, fun b hb => hb⟩ ?_ ?_ (fun _ _ _ _ h => h.elim)
  · rintro b (hb | ⟨y, hy, rfl⟩) (h | h)
    · have := hFt b hb; have := K7.out.2; omega
    · have := hFt b hb; have := hDl b h; omega
    · have := hdl y hy; omega
    · rcases h with h | h | ⟨z, hz, h⟩
      · exact (HT.out.1.own y hy).2 h
      · exact ((HT.out.1.apart _ h).2 y hy).2 rfl
      · exact (HT.out.1.data_ne hy hz).1 h.symm
  · rintro b (rfl | h)
    · exact hbox.lt
    · exact hRd.2.2.dlt b h
  · rintro b (hb | ⟨y, hy, rfl⟩)
    · have := hFt b hb; have := k810.size; have := K7.out.2; omega
    · have := hdl y hy; have := k810.size; omega
  · intro l pre x rest U' W11 hitems hi hkw hlt' hD' hRd' hl hlD hlW hlw hUU
    have hmem : x ∈ E := (ordT_perm m E).mem_iff.1 (by rw [← hitems]; simp)
    have hxpre : x ∉ pre := by
      have h1 : ((ordT m E).map (·.key)).Nodup := (((ordT_perm m E).map _).nodup_iff).2 HT.out.1.keys
      rw [← hitems, List.map_append, List.map_cons] at h1
      intro e
      exact (List.nodup_append.1 h1).2.2 x.key (List.mem_map.2 ⟨x, e, rfl⟩) x.key (by simp) rfl
    have HX := Lib.hid (And.intro hmem (And.intro hxpre (And.intro hi (And.intro hlt' (And.intro hl (And.intro hlW (And.intro hkw hlw)))))))
    clear hi hlt' hD' hRd' hUU hkw hitems hRd hDl hnf hbox hbx hlD k810 hmem hxpre hl hlW hlw hFt htb7 hEs hST10 hdl
    simp only [encE, List.zip_toArray, List.zip_cons_cons, List.zip_nil_left, List.foldl_toArray', List.foldl_cons, List.foldl_nil, List.setIfInBounds_toArray, List.set_cons_succ, List.set_cons_zero]
    gi_wp2_with (rw [Oper.semAt_eq _ _ _ (fun c h => by cases h)]; go_simp; try go_bits)
    refine ⟨trivial, ?_⟩
    intro W12 kl zl
    clear zl
    obtain ⟨hmem, hxpre, hi, hlt', hl, hlW, hkw, hlw⟩ := HX.out
    obtain ⟨⟨Pt, hSt, hsp⟩, hdat, hUs⟩ := BkI.kept hi (kl.mono fun b _ e h => by subst e; exact hl h)
    have hdx := hdat x hmem hxpre
    have hvs : 0 < x.data.size := by
      have h1 := HT.out.1.size x hmem
      have h2 := (rightB_iff _ _ _ _ _).1 HMR.out.1
      omega
    have hlook : lookP x.key Pt = some x.data := by
      refine look_mem hsp.nodup (p := (x.key, x.data)) ?_
      have h1 : (x.key, x.data) ∈ P' := by rw [← HT.out.2.1]; exact List.mem_map.2 ⟨x, hmem, rfl⟩
      exact hsp.perm.mem_iff.2 (HP.out.2.2.perm.mem_iff.1 h1)
    obtain ⟨z, hz, hz0, hz255⟩ : ∃ z : Int, (nums x.data).getD 0 0 = z ∧ 0 ≤ z ∧ z ≤ 255 := ⟨_, rfl, (nums_byte x.data hvs).1, (nums_byte x.data hvs).2⟩
    have d0 := hdx.2 0 hvs
    rw [hz] at d0
    have f0 := hdx.1.frozen (o := 0) (by have := (HT.out.1.en x hmem).le; omega)
    have hvs' : (0 : Int) < (x.data.size : Int) := by omega
    have k8 : Kept (fun b => Ft b ∨ w7.heap.size ≤ b) w8 W12 := ((H10.out.2.1.mono fun _ _ e => e.elim).trans (hkw.mono (S' := fun b => Ft b ∨ w7.heap.size ≤ b) fun b _ e => e.imp id (fun ⟨y, hy, e⟩ => by rw [e]; exact (FAR.out.2.2.2.1 y hy).1)) (fun _ _ e => e)).trans kl (fun b _ e => .inr (by
      have e : b = l := e
      have h1 := H10.out.2.1.size
      have h2 := K7.out.2
      omega))
    have htbk : ¬ (Ft tb ∨ w7.heap.size ≤ tb) := fun e => e.elim (fun h => by have := FAR.out.1 tb h; omega) (fun h => by have := FAR.out.2.1; omega)
    have hct := (BT8.out.kept k8 htbk).cell
    have hne : ∀ W', Kept (fun b => b = x.d) W12 W' → W'.cell? ⟨tb, 0, none⟩ = some (.pointer (some ⟨bt, 0, none⟩)) := fun W' kk => ((BT8.out.kept k8 htbk).kept kk (fun e => htbk (.inr (by rw [e]; exact (FAR.out.2.2.2.1 x hmem).1)))).cell
    obtain ⟨w13, hw13⟩ : ∃ w13, W12.setCell ⟨x.d, 0, none⟩ (.int .u8 ((z + 1) % 256)) = w13 := ⟨_, rfl⟩
    have k1213 : Kept (fun b => b = x.d) W12 w13 := by rw [← hw13]; exact Kept.one_set W12 ⟨x.d, 0, none⟩ _
    have hct13 := hne w13 k1213
    have d13 : w13.cell? ⟨x.d, 0, none⟩ = some (.int .u8 ((z + 1) % 256)) := by rw [← hw13]; exact World.cell?_setCell_same' _ _ _ (by rw [d0]; rfl)
    have B12 := Lib.hid (And.intro hSt (And.intro hsp (And.intro hdat (And.intro hUs (And.intro kl (And.intro hlook (And.intro k1213 d13)))))))
    have HXD := Lib.hid (show ¬ Ft x.d from fun e => by have := FAR.out.1 _ e; have := FAR.out.2.1; have := (FAR.out.2.2.2.1 x hmem).1; omega)
    have HZ := Lib.hid hz
    obtain ⟨x1, w14, hcv, kq, bq, z14⟩ := bytes_made w13 x.key
    have hz13 : w13.heap.size = W12.heap.size := by rw [← hw13]; simp [World.setCell]
    rw [hz13] at hcv bq
    have KQ := Lib.hid (And.intro kq (And.intro bq z14))
    have HW13 := Lib.hid hw13
    rw [← hw13] at hct13 hcv
    clear hSt hsp hdat hUs hlook k1213 d13 hmem hxpre hi hlt' hl hlW hkw hlw hdx hct k8 htbk hne hw13 hz kl hvs kq bq z14 hz13
    gi_wp2_with (rw [Oper.semAt_eq _ _ _ (fun c h => by cases h)]; go_simp; try go_bits)
    try rw [HW13.out]
    obtain ⟨hSt, hsp, hdat, hUs, kl, hlook, k1213, d13⟩ := B12.out
    have hSt13 : Ses m bt Pt Ft w13 := hSt.kept k1213 (fun b hb e => HXD.out (by rw [← e]; exact hb))
    refine callsIn_WR.2 ((ses_look (k := x.key) (c := x1) hSt13 KQ.out.1 KQ.out.2.1).mono ?_)
    rintro e w15 ⟨xv, rfl, h15, hf, k15⟩
    rw [hlook] at hf ⊢
    obtain ⟨xe, rfl, hea, hek, hed, -⟩ := hf
    have hsl := hea.sl
    have hby := hea.bytes 0 (by rw [hed]; omega)
    rw [hed] at hsl hby
    rw [HZ.out] at hby
    have k135 : Kept Ft w13 w15 := (KQ.out.1.mono fun _ _ e => e.elim).trans k15 (fun _ _ e => e)
    have dx15 := (k135.cell (p := ⟨x.d, 0, none⟩) (by have := k1213.size; have := (hdat x HX.out.1 HX.out.2.1).1.lt; show x.d < _; omega) HXD.out).trans d13
    have k125 : Kept (fun b => Ft b ∨ b = x.d) W12 w15 := (k1213.mono fun _ _ e => .inr e).trans k135 (fun _ _ e => .inl e)
    have R15 := Lib.hid (And.intro h15 k125)
    clear hSt hsp hdat hUs kl hlook k1213 d13 hSt13 hea hek hed h15 k15 k135 k125 hcv hct13 d0 f0
    simp only [Option.isSome_some]
    gi_wp2_with (rw [Oper.semAt_eq _ _ _ (fun c h => by cases h)]; go_simp; try go_bits)
    obtain ⟨w16, hw16, t16⟩ : ∃ w16, w16 = ({ w15 with drawn := w15.drawn + 1 } : World) ∧ Twin w16 w15 := ⟨_, rfl, rfl, rfl, rfl, rfl⟩
    refine wpW_region_still (by kernel_rfl) (by kernel_rfl) ?_
    rw [← hw16]
    have g1 : w16.cell? ⟨xe.b, 1, none⟩ = some (.slice (some ⟨xe.d, 0, none⟩) x.data.size xe.c) := by obtain ⟨_, rfl⟩ := t16.eq; exact hsl
    have g2 : w16.cell? ⟨xe.d, 0, none⟩ = some (.int .u8 z) := by obtain ⟨_, rfl⟩ := t16.eq; exact hby
    have g3 : w16.cell? ⟨x.d, 0, none⟩ = some (.int .u8 ((z + 1) % 256)) := by obtain ⟨_, rfl⟩ := t16.eq; exact dx15
    have T16 := Lib.hid t16
    have hwz : IntKind.u8.wrap (z + 1) = (z + 1) % 256 := by first | rfl | (simp [IntKind.wrap]; done) | (unfold IntKind.wrap; rfl)
    clear hw16 t16 hsl hby dx15
    iterate 19 (with_reducible refine wpStill_want (by kernel_rfl) (fun K hK => ?_); go_simp; with_reducible refine hK _ ?_; clear hK K)
    refine wpStill_nil ?_
    gi_wp2_with (rw [Oper.semAt_eq _ _ _ (fun c h => by cases h)]; go_simp; try go_bits)
    obtain ⟨hSt, hsp, hdat, hUs, kl, hlook, k1213, d13⟩ := B12.out
    obtain ⟨hmem, hxpre, hi, hlt', hl, hlW, hkw, hlw⟩ := HX.out
    have k156 : Kept (fun _ => False) w15 w16 := (Kept.refl _ _).twin T16.out
    have k126 : Kept (fun b => Ft b ∨ b = x.d) W12 w16 := R15.out.2.trans k156 (fun _ _ e => e.elim)
    have kr : Kept U' W12 w16 := k126.mono fun b _ e => e.elim (fun e => hUs b (.inl e)) (fun e => hUs b (.inr ⟨x, hmem, e⟩))
    obtain ⟨e1, e2, e3, e4⟩ := round_plain (U := U') kl hl hlt' hlW kr
    refine ⟨e1, _, e2, e3, e4, ⟨_, R15.out.1.keep k156, hsp.use m x.key⟩, fun y hy hn => ?_, hUs⟩
    refine (hdat y hy (fun e => hn (by simp [e]))).kept k126 ?_
    rintro (e | e)
    · have := FAR.out.1 _ e
      have := FAR.out.2.1
      have := (FAR.out.2.2.2.1 y hy).1
      omega
    · exact (HT.out.1.data_ne hmem hy).2 (fun e => hn (by rw [e]; simp)) e
  · intro items dk U3 W13 hfull hi hkw hRd' hdk hdkn hdkU hUU hUn hUlt
    have k8 : Kept (fun b => Ft b ∨ w7.heap.size ≤ b) w8 W13 := ((k810.mono (S' := fun b => Ft b ∨ w7.heap.size ≤ b) fun _ _ e => e.elim)).trans hkw (fun b _ e => e.imp id (fun ⟨y, hy, e⟩ => by rw [e]; exact (hdl y hy).1))
    have hz4 := S4.out.2.2.size
    have hz48 := K48.out.size
    have hz810 := k810.size
    have hrbt := KW3.out.2.2
    have h0 := RB.out.2.2
    have htb3 := BT.out.lt
    have k38 : Kept (fun b => Ft b ∨ w7.heap.size ≤ b) w3 W13 := ((S4.out.2.2.trans K48.out (fun _ _ e => e)).mono fun _ _ e => e.elim).trans k8 (fun b _ e => e)
    have h7 := FAR.out.2.1
    have hrn : ¬ (Ft rb ∨ w7.heap.size ≤ rb) := by
      rintro (e | e)
      · have h1 := (SE.out.2.2 rb e).1
        have h2 := (RB.out.1.kept K1.out (fun e => e)).lt
        omega
      · omega
    have br13 : Box W13 rb (.bool false) := KW3.out.2.1.kept k38 hrn
    have hKW : Kept (fun _ => False) W W13 := KW3.out.1.trans k38 (fun b hb e => by
      rcases e with e | e
      · have h1 := (SE.out.2.2 b e).1
        have h2 := (RB.out.2.1.trans K1.out (fun _ _ e => e)).size
        omega
      · omega)
    have hcr := br13.cell
    have hfr := br13.frozen
    have FIN := Lib.hid (show Box W13 rb (.bool false) ∧ Kept (fun _ => False) W W13 ∧ W13.heap[dk]? = some (.deferred (some [])) ∧ rb ≠ dk ∧ W.heap.size ≤ rb ∧ W.heap.size ≤ dk from
      ⟨br13, hKW, hdk, by omega, h0, by omega⟩)
    clear hKW hrn h7 htb3 h0 hrbt hz810 hz48 hz4 hfull hi hkw hRd' hdk hdkn hdkU hUU hUn hUlt k8 k38 br13 hRd hDl hnf hbox hbx k810 hFt htb7 hEs hST10 hdl
    gi_wp2_with fail
    obtain ⟨hb9, k9, hdk, hrd, hrb, hdl⟩ := FIN.out
    have ks := Kept.one_set W13 ⟨rb, 0, none⟩ (.bool true)
    have hdk2 := (ks.block dk (Array.getElem?_eq_some_iff.1 hdk).1 (fun e => hrd e.symm)).trans hdk
    refine leaves_marks [dk] _ (by simp) (fun d hd => by rw [List.mem_singleton.1 hd]; exact hdk2) (fun W' kd' => ?_)
    have hb := (hb9.set (.bool true)).kept kd' (fun e => hrd (List.mem_singleton.1 e))
    refine ⟨_, results_box rfl Tryz.underlying4 rfl rfl hb, rfl, ?_⟩
    exact (k9.trans ks (fun b hb e => by have e : b = rb := e; omega)).trans kd' (fun b hb e => by have := List.mem_singleton.1 e; omega)
end Go.Proofs.YtjkgimloafpipaaGreat
