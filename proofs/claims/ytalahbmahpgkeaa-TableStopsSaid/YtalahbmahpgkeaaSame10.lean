/- 'same': a table has the document's entries, in order. -/
import Derived.Test.YtalahbmahpgkeaaDocTwo
import Derived.Test.YtalahbmahpgkeaaGenD
import Derived.Test.YtalahbmahpgkeaaHeldE
import Derived.Test.YtalahbmahpgkeaaGenC
import Derived.Test.YtalahbmahpgkeaaOrdSX
import Derived.Deep.CutBlock
import Derived.Deep.RegionHeld3
namespace Go.Proofs.Ytalahbmahpgkeaa
set_option linter.unusedVariables false
set_option linter.unusedSimpArgs false
open Go.RowKit Go.MapKept

theorem two_at {A B : List En} (h : kvs A = kvs B) {pre rest : List En} {e : En} (hA : A = pre ++ e :: rest) : ∃ y, B[pre.length]? = some y ∧ y.key = e.key ∧ y.data = e.data := by
  have h1 : (kvs A)[pre.length]? = some (e.key, e.data) := by rw [hA]; simp [kvs]
  rw [h] at h1
  unfold kvs at h1
  rw [List.getElem?_map] at h1
  obtain ⟨y, hy, e⟩ := Option.map_eq_some_iff.1 h1
  injection e with e1 e2
  exact ⟨y, hy, e1, e2⟩

set_option maxRecDepth 100000 in
set_option maxHeartbeats 4000000 in
theorem same10_any {W0 : World} {m : TM} {bt br : Nat} {X : Nat → Prop} {P : List Pr} {W : World} (h : D2 W0 m bt br X P (ordP m P) W) :
    Calls Try.prog 29 #[.pointer (some ⟨bt, 0, none⟩), .pointer (some ⟨br, 0, none⟩)] W fun e w' => e = .returned (.bool true) ∧ Kept (fun _ => False) W w' := by
  have hlen := h.len
  have h3 := (rightB_iff _ _ _ _ _).1 h.right
  have hnd := h.nodup
  obtain ⟨Ft, Fr, hs, hr, hdis, hat⟩ := h.ex
  obtain ⟨iv, E, F, hT, hE, hF⟩ := hs
  obtain ⟨lv, E2, hR, hE2, hF2⟩ := hr
  have hkv : kvs (ordT m E) = kvs E2 := by
    rw [hE2, ← hE]
    exact ordT_kvs hT.keys
  obtain ⟨N, hN⟩ : ∃ N, E2.length = N := ⟨_, rfl⟩
  have hN2 : (ordT m E).length = N := by rw [← hN, ← kvs_len, ← kvs_len, hkv]
  have hPN : P.length = N := by rw [← hE, kvs_len, ← hN2, (ordT_perm m E).length_eq]
  have hNmx : N ≤ 1024 := by omega
  have HT := Lib.hid (And.intro hT (And.intro hR (And.intro hkv (And.intro hN (And.intro hN2 hPN)))))
  have HF := Lib.hid (show ∀ b, Tfp bt E F b ∨ Rtfp br lv E2 b → b < W.heap.size from fun b hb => hb.elim (hT.lt b) (hR.lt b))
  obtain ⟨la, lc, rfl, -⟩ := own_form hR.own
  rw [hN] at HT HF
  clear h hlen h3 hnd hdis hat hE hF hE2 hF2 hT hR hkv hN hN2 hPN
  refine callsIn_WR (ro := none) (n := 0).1 (callsIn_of_wp_marks Try.func29 rfl trivial ?_ rfl)
  simp only [Try.ntmps29, List.size_toArray, List.length_cons, List.length_nil, Nat.reduceAdd, Nat.reduceSub, Array.replicate_succ, Array.replicate_zero, List.push_toArray, List.append_toArray, List.nil_append, List.cons_append]
  gi_wp2_with fail
  obtain ⟨nm, kd, ks, vs, mx⟩ := m
  obtain ⟨W1, hW1⟩ : ∃ W1, W1 = ((W.alloc (.cells #[.pointer (some ⟨br, 0, none⟩)] 52)).alloc (.cells #[.bool false] 4)).alloc (.cells #[.int .i64 0] 3) := ⟨_, rfl⟩
  obtain ⟨qb, hqb⟩ : ∃ qb, W.heap.size = qb := ⟨_, rfl⟩
  have hsz : W1.heap.size = qb + 3 := by rw [hW1, ← hqb]; simp
  have k1 : Kept (fun _ => False) W W1 := by rw [hW1]; exact ((Kept.one_alloc W _).alloc _).alloc _
  have bq : Box W1 qb (.pointer (some ⟨br, 0, none⟩)) := by rw [hW1, ← hqb]; exact ((Box.new W _ _).alloc _).alloc _
  have brs : Box W1 (qb + 1) (.bool false) := by
    have := (Box.new (W.alloc (.cells #[.pointer (some ⟨br, 0, none⟩)] 52)) (.bool false) 4).alloc (.cells #[.int .i64 0] 3)
    rw [hW1, ← hqb]
    simpa using this
  have bi : Box W1 (qb + 1 + 1) (.int .i64 ((0 : Nat) : Int)) := by
    have := Box.new ((W.alloc (.cells #[.pointer (some ⟨br, 0, none⟩)] 52)).alloc (.cells #[.bool false] 4)) (.int .i64 0) 3
    rw [hW1, ← hqb]
    simpa using this
  rw [← hW1, hqb]
  obtain ⟨ib, hib⟩ : ∃ ib, qb + 1 + 1 = ib := ⟨_, rfl⟩
  rw [hib] at bi ⊢
  obtain ⟨rb, hrb⟩ : ∃ rb, qb + 1 = rb := ⟨_, rfl⟩
  rw [hrb] at brs ⊢
  have H1 := Lib.hid (And.intro k1 (And.intro bq (And.intro brs (And.intro bi (And.intro hsz (And.intro hqb (And.intro hib hrb)))))))
  clear hW1 hqb hsz k1 bq brs bi hib hrb
  refine callsIn_WR.2 ((all_any bt W1).mono ?_)
  rintro e W6 ⟨bx, rfl, hbx, k6, g6⟩
  have hnf := run_eq_nilFunc (P := Try.prog) W6 (.func 38) #[] #[.pointer (some ⟨bx, 0, none⟩)] Try.underlying48
  have hRd : AllRd bx bt ⟨nm, kd, ks, vs, mx⟩ iv E F W6 := ⟨hbx.cell, hbx.lt, ((HT.out.1.kept H1.out.1 (fun _ _ e => e)).kept k6 (fun _ _ e => e)).allR⟩
  have H6 := Lib.hid (And.intro hRd (And.intro k6 g6))
  clear hRd hbx k6 g6
  gi_wp2_with fail
  refine wpW_rangeG (all1_any bx bt ⟨nm, kd, ks, vs, mx⟩ iv E F) rfl all_enters (fun _ => by rfl) (fun (pre : List En) U W' => CountO ib pre.length U W') (fun _ _ _ => False) (fun b => b = ib)
    (fun (pre : List En) U W W' h k => CountO.kept h k) (fun _ _ _ _ h _ => h) ?_ ?_ ?_ H6.out.1 (fun W W' h k => h.kept k (fun e => e (.inl rfl)) (fun b hb e => e (.inr hb))) ⟨H1.out.2.2.2.1.kept H6.out.2.1 (fun e => e), rfl⟩ ?_ ?_ (fun _ _ _ _ h => h.elim)
  · rintro b rfl (h | h)
    · have := H6.out.2.2; have := H1.out; omega
    · have := HF.out b (.inl (h.imp id (fun h => h.imp id (fun ⟨x, hx, e⟩ => ⟨x, hx, .inl e⟩))))
      have := H1.out
      omega
  · rintro b (rfl | h)
    · exact H6.out.1.2.1
    · exact H6.out.1.2.2.dlt b h
  · rintro b rfl
    exact (H1.out.2.2.2.1.kept H6.out.2.1 (fun e => e)).lt
  · intro l pre e rest U' W7 hitems hi hkw hlt' hD' hRd' hl hlD hlW hlw hUU
    obtain ⟨y, hy, hyk, hyv⟩ := two_at HT.out.2.2.1 hitems.symm
    have hj : pre.length < N := by rw [← HT.out.2.2.2.2.1, ← hitems]; simp <;> omega
    have heE : e ∈ E := (ordT_perm ⟨nm, kd, ks, vs, mx⟩ E).mem_iff.1 (by rw [← hitems]; simp)
    have LK := Lib.hid (And.intro hlt' (And.intro hl (And.intro hkw (And.intro hlw (And.intro hi hlW)))))
    have HY := Lib.hid (And.intro hy (And.intro hyk (And.intro hyv heE)))
    clear hi hlt' hD' hRd' hlD hkw hitems hnf hl hlw hUU hy hyk hyv heE hlW
    simp only [encE, List.zip_toArray, List.zip_cons_cons, List.zip_nil_left, List.foldl_toArray', List.foldl_cons, List.foldl_nil, List.setIfInBounds_toArray, List.set_cons_succ, List.set_cons_zero]
    gi_wp2_with (rw [Oper.semAt_eq _ _ _ (fun c h => by cases h)]; go_simp; try go_bits)
    refine ⟨trivial, ?_⟩
    intro W8 kl zl
    have hi8 := LK.out.2.2.2.2.1.kept (kl.mono fun b _ e h => by subst e; exact LK.out.2.1 h)
    obtain ⟨j2, hj2⟩ : ∃ j2, pre.length = j2 := ⟨_, rfl⟩
    rw [hj2] at hi8 hj
    have k08 : Kept (fun b => W.heap.size ≤ b) W W8 := by
      have h1 := H1.out.1.size
      have h2 := H6.out.2.1.size
      have h3 := LK.out.2.2.2.1
      have h4 := H1.out
      exact ((kF (H1.out.1.trans H6.out.2.1 (fun _ _ e => e))).trans LK.out.2.2.1 (fun b hb e => by omega)).trans kl (fun b hb e => by omega)
    obtain ⟨w5, hw5, t5⟩ : ∃ w5, w5 = ({ W8 with drawn := W8.drawn + 1 } : World) ∧ Twin w5 W8 := ⟨_, rfl, rfl, rfl, rfl, rfl⟩
    have k05 := k08.twin t5
    have hR5 := HT.out.2.1.kept k05 (fun b hb e => by have := HF.out b (.inr hb); omega)
    have hT5 := HT.out.1.kept k05 (fun b hb e => by have := HF.out b (.inl hb); omega)
    have hE2at : E2[j2]? = some y := by rw [← hj2]; exact HY.out.1
    obtain ⟨g, c', eg, hg1, hg2⟩ := hR5.at hE2at
    have hyE := hR5.en y (List.mem_of_getElem? hE2at)
    have hsl := hyE.sl
    have hcv1 := hyE.data.conv (c := y.c)
    have hcv2 := ((hT5.en e HY.out.2.2.2).data).conv (c := e.c)
    rw [HY.out.2.1] at hg2
    have e5 := hR5.c5
    rw [HY.out.2.2.1] at hcv1 hsl
    simp only [Value.slice.injEq] at eg
    obtain ⟨eg, -, -⟩ := eg
    rw [eg] at e5
    have bi5 : Box w5 ib (.int .i64 (j2 : Int)) := hi8.1.twin t5
    have hci := bi5.cell
    have bq5 : Box w5 qb (.pointer (some ⟨br, 0, none⟩)) := by
      have h4 := H1.out
      have h5 := H6.out.2.1.size
      have h6 := LK.out.2.2.2.1
      exact (((H1.out.2.1.kept H6.out.2.1 (fun e => e)).kept LK.out.2.2.1 (fun e => by omega)).kept kl (fun e => by omega)).twin t5
    have hcq := bq5.cell
    have hb1 := bytes_self e.key
    have hb2 := bytes_self e.data
    have hjN : (j2 : Int) < (N : Int) := by omega
    have hw1 : IntKind.i64.wrap ((j2 : Int) + 1) = (j2 : Int) + 1 := IntWalk.i64_in _ (by omega)
    have B8 := Lib.hid (And.intro hi8 (And.intro kl (And.intro zl (And.intro t5 bi5))))
    clear eg hi8 kl zl k08 k05 hR5 hT5 hyE hE2at bi5 bq5 t5
    gi_wp2_with (rw [Oper.semAt_eq _ _ _ (fun c h => by cases h)]; go_simp; try go_bits)
    refine wpW_region_still (by kernel_rfl) (by kernel_rfl) ?_
    rw [← hw5]
    clear hw5
    have hge : decide (N ≤ j2) = false := by simp; omega
    iterate 37 (with_reducible refine wpStill_want (by kernel_rfl) (fun K hK => ?_); go_simp; with_reducible refine hK _ ?_; clear hK K)
    refine wpStill_nil ?_
    clear hge hcv1 hcv2 hg1 hg2 hsl hci hcq e5 hb1 hb2
    have hci := B8.out.2.2.2.2.cell
    have hfi := B8.out.2.2.2.2.frozen
    gi_wp2_with (rw [Oper.semAt_eq _ _ _ (fun c h => by cases h)]; go_simp; try go_bits)
    obtain ⟨hi8, kl, zl, t5, bi5⟩ := B8.out
    have kr : Kept U' W8 (w5.setCell ⟨ib, 0, none⟩ (.int .i64 ((j2 : Int) + 1))) := ((Kept.refl U' W8).twin t5).trans (Kept.one_set w5 ⟨ib, 0, none⟩ _) (fun b _ e => by have e : b = ib := e; rw [e]; exact hi8.2)
    obtain ⟨e1, e2, e3, e4⟩ := round_plain (U := U') kl LK.out.2.1 LK.out.1 LK.out.2.2.2.2.2 kr
    exact ⟨e1, _, e2, e3, e4, by rw [List.length_append, hj2]; exact bi5.set _, hi8.2⟩
  · intro items dk U3 W9 hfull hi kW hR hmk hdkl hdkU hUU hUn hUl
    have hh1 := H1.out
    have hz1 := hh1.1.size
    have hz6 := H6.out.2.1.size
    rw [hfull, HT.out.2.2.2.2.1] at hi
    have hbi := hi.1
    have k09 : Kept (fun b => W.heap.size ≤ b) W W9 := (kF (hh1.1.trans H6.out.2.1 (fun _ _ e => e))).trans kW (fun b hb e => by omega)
    have hT9 := HT.out.1.kept k09 (fun b hb e => by have := HF.out b (.inl hb); omega)
    have hR9 := HT.out.2.1.kept k09 (fun b hb e => by have := HF.out b (.inr hb); omega)
    have bq9 := ((hh1.2.1.kept H6.out.2.1 (fun e => e)).kept kW (fun e => by omega))
    have br9 := ((hh1.2.2.1.kept H6.out.2.1 (fun e => e)).kept kW (fun e => by omega))
    have hPN := HT.out.2.2.2.2.2
    have LEN := Lib.hid (show ∀ W', Kept (fun _ => False) W9 W' → Calls Try.prog 17 #[.pointer (some ⟨bt, 0, none⟩)] W' fun e w' => e = .returned (.int .i64 (N : Int)) ∧ Kept (fun _ => False) W9 w' from by
      intro W' kk
      refine (len_any (hT9.kept kk (fun _ _ e => e))).mono ?_
      rintro e w' ⟨rfl, k'⟩
      refine ⟨?_, kk.trans k' (fun _ _ e => e)⟩
      rw [← (ordT_perm ⟨nm, kd, ks, vs, mx⟩ E).length_eq, HT.out.2.2.2.2.1])
    have MAP := Lib.hid (show ∀ W', Kept (fun _ => False) W9 W' → Calls Try.prog 18 #[.pointer (some ⟨bt, 0, none⟩)] W' fun e w' => e = .returned (.agg #[.string nm, .int .i64 kd, .int .i64 ks, .int .i64 vs, .int .i64 mx]) ∧ Kept (fun _ => False) W9 w' from by
      intro W' kk
      refine (map_any (hT9.kept kk (fun _ _ e => e))).mono ?_
      rintro e w' ⟨rfl, k'⟩
      exact ⟨rfl, kk.trans k' (fun _ _ e => e)⟩)
    have RBX := Lib.hid (show ∀ w', Kept (fun _ => False) W9 w' → w'.cell? ⟨rb, 0, none⟩ = some (.bool false) ∧ w'.frozen? ⟨rb, 0, none⟩ = false from fun w' kk => ⟨(br9.kept kk (fun e => e)).cell, (br9.kept kk (fun e => e)).frozen⟩)
    have CELLS := Lib.hid (show ∀ w', Kept (fun _ => False) W9 w' → w'.cell? ⟨ib, 0, none⟩ = some (.int .i64 (N : Int)) ∧ w'.cell? ⟨qb, 0, none⟩ = some (.pointer (some ⟨br, 0, none⟩)) ∧ w'.cell? ⟨br, 5, none⟩ = some (.slice la N lc) ∧ w'.cell? ⟨br, 0, none⟩ = some (.string nm) ∧ w'.cell? ⟨br, 1, none⟩ = some (.int .i64 kd) ∧ w'.cell? ⟨br, 2, none⟩ = some (.int .i64 ks) ∧ w'.cell? ⟨br, 3, none⟩ = some (.int .i64 vs) ∧ w'.cell? ⟨br, 4, none⟩ = some (.int .i64 mx) from
      fun w' kk => ⟨(hbi.kept kk (fun e => e)).cell, (bq9.kept kk (fun e => e)).cell, (hR9.keep kk).c5, (hR9.keep kk).c0, (hR9.keep kk).c1, (hR9.keep kk).c2, (hR9.keep kk).c3, (hR9.keep kk).c4⟩)
    have FIN := Lib.hid (show Box W9 rb (.bool false) ∧ Kept (fun _ => False) W W9 ∧ W9.heap[dk]? = some (.deferred (some [])) ∧ rb ≠ dk ∧ W.heap.size ≤ rb ∧ W.heap.size ≤ dk from
      ⟨br9, Kept.none k09, hmk, by omega, by omega, by omega⟩)
    have hbn := bytes_self nm
    clear hh1 hz1 hz6 hfull hi kW hR hmk hdkl hdkU hUU hUn hUl hnf hbi k09 hT9 hR9 bq9 br9 hPN
    gi_wp2_with fail
    refine wpW_region_heldE 22 (S := fun w' => w'.cell? ⟨ib, 0, none⟩ = some (.int .i64 (N : Int)) ∧ w'.cell? ⟨qb, 0, none⟩ = some (.pointer (some ⟨br, 0, none⟩)) ∧ w'.cell? ⟨br, 5, none⟩ = some (.slice la N lc) ∧ w'.cell? ⟨br, 0, none⟩ = some (.string nm) ∧ w'.cell? ⟨br, 1, none⟩ = some (.int .i64 kd) ∧ w'.cell? ⟨br, 2, none⟩ = some (.int .i64 ks) ∧ w'.cell? ⟨br, 3, none⟩ = some (.int .i64 vs) ∧ w'.cell? ⟨br, 4, none⟩ = some (.int .i64 mx)) (by kernel_rfl) (by kernel_rfl) (by rintro ⟨_, _, h⟩; first | exact h.elim | (obtain ⟨h1, -⟩ := h; cases h1)) ?_ (fun hHeld => ?_)
    · exact CELLS.out _ ((Kept.refl _ _).twin ⟨rfl, rfl, rfl, rfl⟩)
    refine heldE_take 0 (oi := _) (v := ?_) rfl (by kernel_rfl) (by kernel_rfl) (by kernel_rfl) (by kernel_rfl) (fun _ _ _ h => h) (by rfl) (fun w hSw => ?_) (by assumption) ?_
    rotate_left
    · (try dsimp only at hSw); go_simp; try with_reducible rfl
    try simp only [Act.put, List.setIfInBounds_toArray, List.set_cons_zero, List.set_cons_succ]
    refine heldE_take 1 (oi := _) (v := ?_) rfl (by kernel_rfl) (by kernel_rfl) (by kernel_rfl) (by kernel_rfl) (fun _ _ _ h => h) (by rfl) (fun w hSw => ?_) (by assumption) ?_
    rotate_left
    · (try dsimp only at hSw); go_simp; try with_reducible rfl
    try simp only [Act.put, List.setIfInBounds_toArray, List.set_cons_zero, List.set_cons_succ]
    refine heldE_take 2 (oi := _) (v := ?_) rfl (by kernel_rfl) (by kernel_rfl) (by kernel_rfl) (by kernel_rfl) (fun _ _ _ h => h) (by rfl) (fun w hSw => ?_) (by assumption) ?_
    rotate_left
    · (try dsimp only at hSw); go_simp; try with_reducible rfl
    try simp only [Act.put, List.setIfInBounds_toArray, List.set_cons_zero, List.set_cons_succ]
    refine heldE_take 3 (oi := _) (v := ?_) rfl (by kernel_rfl) (by kernel_rfl) (by kernel_rfl) (by kernel_rfl) (fun _ _ _ h => h) (by rfl) (fun w hSw => ?_) (by assumption) ?_
    rotate_left
    · (try dsimp only at hSw); go_simp; try with_reducible rfl
    try simp only [Act.put, List.setIfInBounds_toArray, List.set_cons_zero, List.set_cons_succ]
    refine heldE_take 4 (oi := _) (v := ?_) rfl (by kernel_rfl) (by kernel_rfl) (by kernel_rfl) (by kernel_rfl) (fun _ _ _ h => h) (by rfl) (fun w hSw => ?_) (by assumption) ?_
    rotate_left
    · (try dsimp only at hSw); go_simp; try with_reducible rfl
    try simp only [Act.put, List.setIfInBounds_toArray, List.set_cons_zero, List.set_cons_succ]
    refine heldE_take 5 (oi := _) (v := ?_) rfl (by kernel_rfl) (by kernel_rfl) (by kernel_rfl) (by kernel_rfl) (fun _ _ _ h => h) (by rfl) (fun w hSw => ?_) (by assumption) ?_
    rotate_left
    · (try dsimp only at hSw); go_simp; try with_reducible rfl
    try simp only [Act.put, List.setIfInBounds_toArray, List.set_cons_zero, List.set_cons_succ]
    refine heldE_take 6 (oi := _) (v := ?_) rfl (by kernel_rfl) (by kernel_rfl) (by kernel_rfl) (by kernel_rfl) (fun _ _ _ h => h) (by rfl) (fun w hSw => ?_) (by assumption) ?_
    rotate_left
    · (try dsimp only at hSw); go_simp; try with_reducible rfl
    try simp only [Act.put, List.setIfInBounds_toArray, List.set_cons_zero, List.set_cons_succ]
    refine heldE_take 7 (oi := _) (v := ?_) rfl (by kernel_rfl) (by kernel_rfl) (by kernel_rfl) (by kernel_rfl) (fun _ _ _ h => h) (by rfl) (fun w hSw => ?_) (by assumption) ?_
    rotate_left
    · (try dsimp only at hSw); go_simp; try with_reducible rfl
    try simp only [Act.put, List.setIfInBounds_toArray, List.set_cons_zero, List.set_cons_succ]
    refine heldE_take 8 (oi := _) (v := ?_) rfl (by kernel_rfl) (by kernel_rfl) (by kernel_rfl) (by kernel_rfl) (fun _ _ _ h => h) (by rfl) (fun w hSw => ?_) (by assumption) ?_
    rotate_left
    · (try dsimp only at hSw); go_simp; try with_reducible rfl
    try simp only [Act.put, List.setIfInBounds_toArray, List.set_cons_zero, List.set_cons_succ]
    refine heldE_take 10 (oi := _) (v := ?_) rfl (by kernel_rfl) (by kernel_rfl) (by kernel_rfl) (by kernel_rfl) (fun _ _ _ h => h) (by rfl) (fun w hSw => ?_) (by assumption) ?_
    rotate_left
    · (try dsimp only at hSw); go_simp; try with_reducible rfl
    try simp only [Act.put, List.setIfInBounds_toArray, List.set_cons_zero, List.set_cons_succ]
    refine wpAnyE_ready (rs := [9]) (by kernel_rfl) (by simp) ?_
    refine heldE_cons 9 (o := _) rfl (fun KC hKC => ?_) AllReadyE.nil
    go_simp
    with_reducible refine Calls.mono (LEN.out _ ?_) ?_
    · exact (Kept.refl _ _).twin ⟨rfl, rfl, rfl, rfl⟩
    rintro e1 wA ⟨rfl, kA⟩
    have KA := Lib.hid kA
    clear kA
    dsimp only
    refine hKC.out _ _ ?_ (fun hHeld => ?_)
    · first | exact CELLS.out _ KB.out | exact CELLS.out _ KA.out
    clear hKC KC
    try simp only [Act.put, List.setIfInBounds_toArray, List.set_cons_zero, List.set_cons_succ]
    refine heldE_take 11 (oi := _) (v := ?_) rfl (by kernel_rfl) (by kernel_rfl) (by kernel_rfl) (by kernel_rfl) (fun _ _ _ h => h) (by rfl) (fun w hSw => ?_) (by assumption) ?_
    rotate_left
    · (try dsimp only at hSw); go_simp; try with_reducible rfl
    try simp only [Act.put, List.setIfInBounds_toArray, List.set_cons_zero, List.set_cons_succ]
    refine heldE_take 12 (oi := _) (v := ?_) rfl (by kernel_rfl) (by kernel_rfl) (by kernel_rfl) (by kernel_rfl) (fun _ _ _ h => h) (by rfl) (fun w hSw => ?_) (by assumption) ?_
    rotate_left
    · (try dsimp only at hSw); go_simp; try with_reducible rfl
    try simp only [Act.put, List.setIfInBounds_toArray, List.set_cons_zero, List.set_cons_succ]
    refine heldE_take 13 (oi := _) (v := ?_) rfl (by kernel_rfl) (by kernel_rfl) (by kernel_rfl) (by kernel_rfl) (fun _ _ _ h => h) (by rfl) (fun w hSw => ?_) (by assumption) ?_
    rotate_left
    · (try dsimp only at hSw); go_simp; try with_reducible rfl
    try simp only [Act.put, List.setIfInBounds_toArray, List.set_cons_zero, List.set_cons_succ]
    refine heldE_take 14 (oi := _) (v := ?_) rfl (by kernel_rfl) (by kernel_rfl) (by kernel_rfl) (by kernel_rfl) (fun _ _ _ h => h) (by rfl) (fun w hSw => ?_) (by assumption) ?_
    rotate_left
    · (try dsimp only at hSw); go_simp; try with_reducible rfl
    try simp only [Act.put, List.setIfInBounds_toArray, List.set_cons_zero, List.set_cons_succ]
    refine heldE_take 16 (oi := _) (v := ?_) rfl (by kernel_rfl) (by kernel_rfl) (by kernel_rfl) (by kernel_rfl) (fun _ _ _ h => h) (by rfl) (fun w hSw => ?_) (by assumption) ?_
    rotate_left
    · (try dsimp only at hSw); go_simp; try with_reducible rfl
    try simp only [Act.put, List.setIfInBounds_toArray, List.set_cons_zero, List.set_cons_succ]
    refine heldE_take 17 (oi := _) (v := ?_) rfl (by kernel_rfl) (by kernel_rfl) (by kernel_rfl) (by kernel_rfl) (fun _ _ _ h => h) (by rfl) (fun w hSw => ?_) (by assumption) ?_
    rotate_left
    · (try dsimp only at hSw); go_simp; try with_reducible rfl
    try simp only [Act.put, List.setIfInBounds_toArray, List.set_cons_zero, List.set_cons_succ]
    refine heldE_take 18 (oi := _) (v := ?_) rfl (by kernel_rfl) (by kernel_rfl) (by kernel_rfl) (by kernel_rfl) (fun _ _ _ h => h) (by rfl) (fun w hSw => ?_) (by assumption) ?_
    rotate_left
    · (try dsimp only at hSw); go_simp; try with_reducible rfl
    try simp only [Act.put, List.setIfInBounds_toArray, List.set_cons_zero, List.set_cons_succ]
    refine heldE_take 19 (oi := _) (v := ?_) rfl (by kernel_rfl) (by kernel_rfl) (by kernel_rfl) (by kernel_rfl) (fun _ _ _ h => h) (by rfl) (fun w hSw => ?_) (by assumption) ?_
    rotate_left
    · (try dsimp only at hSw); go_simp; try with_reducible rfl
    try simp only [Act.put, List.setIfInBounds_toArray, List.set_cons_zero, List.set_cons_succ]
    refine wpAnyE_ready (rs := [15]) (by kernel_rfl) (by simp) ?_
    refine heldE_cons 15 (o := _) rfl (fun KC hKC => ?_) AllReadyE.nil
    go_simp
    with_reducible refine Calls.mono (MAP.out _ ?_) ?_
    · exact KA.out.twin ⟨rfl, rfl, rfl, rfl⟩
    rintro e1 wB ⟨rfl, kB⟩
    have KB := Lib.hid kB
    obtain ⟨hcr, hfr⟩ := RBX.out _ kB
    clear kB
    dsimp only
    refine hKC.out _ _ ?_ (fun hHeld => ?_)
    · first | exact CELLS.out _ KB.out | exact CELLS.out _ KA.out
    clear hKC KC
    try simp only [Act.put, List.setIfInBounds_toArray, List.set_cons_zero, List.set_cons_succ]
    refine heldE_take 20 (oi := _) (v := ?_) rfl (by kernel_rfl) (by kernel_rfl) (by kernel_rfl) (by kernel_rfl) (fun _ _ _ h => h) (by rfl) (fun w hSw => ?_) (by assumption) ?_
    rotate_left
    · (try dsimp only at hSw); go_simp; try with_reducible rfl
    try simp only [Act.put, List.setIfInBounds_toArray, List.set_cons_zero, List.set_cons_succ]
    refine heldE_take 21 (oi := _) (v := ?_) rfl (by kernel_rfl) (by kernel_rfl) (by kernel_rfl) (by kernel_rfl) (fun _ _ _ h => h) (by rfl) (fun w hSw => ?_) (by assumption) ?_
    rotate_left
    · (try dsimp only at hSw); go_simp; try with_reducible rfl
    try simp only [Act.put, List.setIfInBounds_toArray, List.set_cons_zero, List.set_cons_succ]
    refine wpAnyE_ready (rs := [22]) (by kernel_rfl) (by simp) ?_
    refine heldE_last (o := _) rfl (fun KC hKC => ?_) AllReadyE.nil
    go_simp
    refine hKC.out _ _ ?_
    clear hKC KC
    try simp only [Act.put, List.setIfInBounds_toArray, List.set_cons_zero, List.set_cons_succ]
    refine wpAnyE_done (by kernel_rfl) (NoPanic.normal ?_) _
    gi_wp2_with fail
    obtain ⟨hb9, k9, hdk, hrd, hrb, hdl⟩ := FIN.out
    have ks := Kept.one_set wB ⟨rb, 0, none⟩ (.bool true)
    have kF9 : Kept (fun b => b = rb) W9 (wB.setCell ⟨rb, 0, none⟩ (.bool true)) := (kF KB.out).trans ks (fun _ _ e => e)
    have hdk2 := (kF9.block dk (Array.getElem?_eq_some_iff.1 hdk).1 (fun e => hrd e.symm)).trans hdk
    refine leaves_marks [dk] _ (by simp) (fun d hd => by rw [List.mem_singleton.1 hd]; exact hdk2) (fun W' kd' => ?_)
    have hb := ((hb9.kept KB.out (fun e => e)).set (.bool true)).kept kd' (fun e => hrd (List.mem_singleton.1 e))
    refine ⟨_, results_box rfl Try.underlying4 rfl rfl hb, rfl, ?_⟩
    exact (k9.trans kF9 (fun b hb e => by omega)).trans kd' (fun b hb e => by have := List.mem_singleton.1 e; omega)
end Go.Proofs.Ytalahbmahpgkeaa
