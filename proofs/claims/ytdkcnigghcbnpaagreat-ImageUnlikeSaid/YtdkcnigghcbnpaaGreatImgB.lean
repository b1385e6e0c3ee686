/- What stands under the walks, part B. -/
import Derived.Test.YtdkcnigghcbnpaaGreatImgC
import Derived.Test.YtdkcnigghcbnpaaGreatThing
import Derived.Lib.ConvBytes
/- image's reader: a map and its entries. -/
namespace Go.Proofs.YtdkcnigghcbnpaaGreat
set_option linter.unusedVariables false
set_option linter.unusedSimpArgs false
open Go.RowKit Go.MapKept

theorem bytes_made9 (w : World) (s : ByteArray) : ∃ c w5, (convert 9 28 (.string s)).run Tryz.prog w = .ok (.slice (some ⟨w.heap.size, 0, none⟩) s.size c) w5 ∧ Kept (fun _ => False) w w5 ∧ BytesAt w5 (some ⟨w.heap.size, 0, none⟩) s.size s ∧ w5.heap.size = w.heap.size + 1 ∧ s.size ≤ c := by
  refine ⟨_, _, Go.Lib.run_convert_string_bytes w 9 28 5 s Tryz.underlying9 Tryz.underlying28 Tryz.underlying5, ?_, ?_, Go.Lib.bytesWorld_size _ _ _, ?_⟩
  · exact ⟨rfl, rfl, rfl, by rw [Go.Lib.bytesWorld_size]; omega, fun k hk _ => Go.Lib.bytesWorld_at_old _ _ _ k hk⟩
  · refine ⟨rfl, fun _ ad e => by cases e; exact ⟨_, _, rfl⟩, fun i hi => ⟨w.heap.size, 0, rfl, by rw [Go.Lib.bytesWorld_size]; omega, ?_⟩⟩
    rw [Nat.zero_add, Go.Lib.bytesWorld_cell _ _ _ _ hi]
    have hi' : i < s.data.toList.length := by simpa using hi
    simp [nums, List.getD_eq_getElem?_getD, List.getElem?_eq_getElem hi']
  · exact grownCap_ge w s.size 0 _
theorem row_set1234 {w : World} {b : Nat} {v0 v1 v2 v3 v4 : Value} (h : RowAt w b 6) (h0 : w.cell? ⟨b, 0, none⟩ = some v0) : ∀ i v, [v0, v1, v2, v3, v4][i]? = some v → ((((w.setCell ⟨b, 1, none⟩ v1).setCell ⟨b, 2, none⟩ v2).setCell ⟨b, 3, none⟩ v3).setCell ⟨b, 4, none⟩ v4).cell? ⟨b, i, none⟩ = some v := by
  obtain ⟨c, t, h1, h2⟩ := h
  obtain ⟨l⟩ := c
  match l, h2 with
  | [a0, a1, a2, a3, a4, a5], _ =>
    have hb : ((((w.setCell ⟨b, 1, none⟩ v1).setCell ⟨b, 2, none⟩ v2).setCell ⟨b, 3, none⟩ v3).setCell ⟨b, 4, none⟩ v4).heap[b]? = some (.cells #[a0, v1, v2, v3, v4, a5] t (0, 0)) := by
      simp [World.setCell, Array.getElem?_modify, h1]
    have h0 : a0 = v0 := by simpa [World.cell?, h1] using h0
    subst h0
    intro i v hv
    simp only [World.cell?, hb]
    match i, hv with
    | 0, hv => simpa using hv
    | 1, hv => simpa using hv
    | 2, hv => simpa using hv
    | 3, hv => simpa using hv
    | 4, hv => simpa using hv
theorem row_set6 {w : World} {b : Nat} {v0 v1 v2 v3 v4 v5 : Value} (h : RowAt w b 6) : ∃ t, ((((((w.setCell ⟨b, 0, none⟩ v0).setCell ⟨b, 1, none⟩ v1).setCell ⟨b, 2, none⟩ v2).setCell ⟨b, 3, none⟩ v3).setCell ⟨b, 4, none⟩ v4).setCell ⟨b, 5, none⟩ v5).heap[b]? = some (.cells #[v0, v1, v2, v3, v4, v5] t (0, 0)) := by
  obtain ⟨c, t, h1, h2⟩ := h
  obtain ⟨l⟩ := c
  match l, h2 with
  | [a0, a1, a2, a3, a4, a5], _ =>
    refine ⟨t, ?_⟩
    simp [World.setCell, Array.getElem?_modify, h1]
set_option maxRecDepth 100000 in
set_option maxHeartbeats 4000000 in
theorem dump_any {w : World} {xb rb Bd : Nat} {L : List UInt8} (hx : Box w xb (.pointer (some ⟨rb, 0, none⟩))) (hne : xb ≠ rb) (h : RdAt w rb Bd L) (hL : L.length ≤ 1000000) :
    Calls Tryz.prog 99 #[.pointer (some ⟨xb, 0, none⟩)] w fun e w' => Kept (fun b => b = rb) w w' ∧ ((∃ x r da dc, cD.dec L = some (x, r) ∧ e = .returned (.agg #[.string x.1, .int .i64 (x.2.1 : Int), .int .i64 (x.2.2.1 : Int), .int .i64 (x.2.2.2.1 : Int), .int .i64 (x.2.2.2.2.1 : Int), .slice da x.2.2.2.2.2.size dc]) ∧ x.2.2.2.2.2.size ≤ dc ∧ BytZ w' (fun b => w.heap.size ≤ b) da x.2.2.2.2.2 ∧ RdAt w' rb Bd r) ∨ (cD.dec L = none ∧ e = lackE)) := by
  have H := Lib.hid (And.intro hx h)
  clear hx h
  go_enter Tryz.func99, Tryz.ntmps99
  go_upto_region 1 with fail
  obtain ⟨lb, hlb⟩ : ∃ lb, w.heap.size = lb := ⟨_, rfl⟩
  obtain ⟨w0, hw0⟩ : ∃ w0, w.alloc (.cells #[.string ⟨#[]⟩, .int .i64 0, .int .i64 0, .int .i64 0, .int .i64 0, .slice none 0 0] 101) = w0 := ⟨_, rfl⟩
  have k0 : Kept (fun _ => False) w w0 := by rw [← hw0]; exact Kept.one_alloc _ _
  have hrow0 : RowAt w0 lb 6 := by rw [← hw0, ← hlb]; exact RowAt.new w _ _
  have hrl : rb < lb := by rw [← hlb]; exact H.out.2.row.lt
  have LB0 := Lib.hid (And.intro hlb (And.intro k0 (And.intro hrl hrow0)))
  have LBN := Lib.hid (show ¬ lb = rb from by omega)
  have CX := Lib.hid (show ∀ w', Kept (fun b => b = rb ∨ b = lb) w0 w' → w'.cell? ⟨xb, 0, none⟩ = some (.pointer (some ⟨rb, 0, none⟩)) from fun w' k => ((H.out.1.kept k0 (fun e => e)).kept k (fun e => e.elim hne (fun e => by have := H.out.1.lt; omega))).cell)
  have TX := Lib.hid (text_any (H.out.2.keep k0) hL)
  have hcx := CX.out w0 (Kept.refl _ _)
  rw [hw0, hlb]
  clear hlb hw0 k0 hrow0 hrl
  go_wp2_with fail
  refine TX.out.mono ?_
  rintro e wA ⟨kA, ⟨s1, rA, hdA, rfl, hrA⟩ | ⟨hdA, rfl⟩⟩
  case' inr =>
    have KA := Lib.hid (And.intro kA hdA)
    clear kA hdA TX hcx
    simp only [lackE]
    go_wp2_with fail
    exact ⟨rfl, (LB0.out.2.1.mono (S' := fun b => b = rb) fun _ _ e => e.elim).trans KA.out.1 (fun _ _ e => e), .inr ⟨cPair_none1 (A := cTxt) KA.out.2, rfl⟩⟩
  have RwA := Lib.hid (And.intro hdA hrA)
  have hrowA := LB0.out.2.2.2.kept kA LBN.out
  have f9 := hrowA.frozen 0
  obtain ⟨v9, c9⟩ := hrowA.some (o := 0) (by omega)
  obtain ⟨w1, hw1⟩ : ∃ w1, wA.setCell ⟨lb, 0, none⟩ (.string s1) = w1 := ⟨_, rfl⟩
  have hks : Kept (fun b => b = lb) wA w1 := by rw [← hw1]; exact Kept.one_set wA ⟨lb, 0, none⟩ _
  have K1 := Lib.hid (show Kept (fun b => b = rb ∨ b = lb) w0 w1 from (kA.mono fun _ _ e => .inl e).trans hks (fun _ _ e => .inr e))
  have Q1 := Lib.hid (show RowAt w1 lb 6 from by rw [← hw1]; exact hrowA.setCell _ _)
  have RX1 := Lib.hid (show RdAt w1 rb Bd rA from hrA.kept hks (fun e => LBN.out (Eq.symm e)) (fun b hb _ e => by have e : b = lb := e; have := H.out.2.le; have := LB0.out.1; omega))
  have C1 := Lib.hid (show w1.cell? ⟨lb, 0, none⟩ = some (.string s1) from by rw [← hw1]; exact cell_set_same hrowA (by omega) _)
  have HW1 := Lib.hid hw1
  clear hdA hrA kA hrowA hks hw1 TX hcx
  go_upto_region 2 with fail
  rw [HW1.out]
  refine wp_region_heldQ (S := fun w' => w'.cell? ⟨xb, 0, none⟩ = some (.pointer (some ⟨rb, 0, none⟩))) (by kernel_rfl) ?_ (fun hHeld => ?_)
  · exact CX.out _ (K1.out.trans ((Kept.refl (fun b => b = rb ∨ b = lb) w1).drew) (fun _ _ e => e))
  have TT := Lib.hid True.intro
  refine held_take 0 (oi := _) (v := ?_) rfl (by kernel_rfl) (by kernel_rfl) (by kernel_rfl) (fun _ _ _ h => h) (by rfl) (fun w hSw => ?_) (by assumption) ?_
  rotate_left
  · (try dsimp only at hSw); go_simp; try with_reducible rfl
  try simp only [Act.put, List.setIfInBounds_toArray, List.set_cons_zero, List.set_cons_succ]
  refine held_take 2 (oi := _) (v := ?_) rfl (by kernel_rfl) (by kernel_rfl) (by kernel_rfl) (fun _ _ _ h => h) (by rfl) (fun w hSw => ?_) (by assumption) ?_
  rotate_left
  · (try dsimp only at hSw); go_simp; try with_reducible rfl
  try simp only [Act.put, List.setIfInBounds_toArray, List.set_cons_zero, List.set_cons_succ]
  refine held_take 4 (oi := _) (v := ?_) rfl (by kernel_rfl) (by kernel_rfl) (by kernel_rfl) (fun _ _ _ h => h) (by rfl) (fun w hSw => ?_) (by assumption) ?_
  rotate_left
  · (try dsimp only at hSw); go_simp; try with_reducible rfl
  try simp only [Act.put, List.setIfInBounds_toArray, List.set_cons_zero, List.set_cons_succ]
  refine held_take 6 (oi := _) (v := ?_) rfl (by kernel_rfl) (by kernel_rfl) (by kernel_rfl) (fun _ _ _ h => h) (by rfl) (fun w hSw => ?_) (by assumption) ?_
  rotate_left
  · (try dsimp only at hSw); go_simp; try with_reducible rfl
  try simp only [Act.put, List.setIfInBounds_toArray, List.set_cons_zero, List.set_cons_succ]
  refine wpAnyH_ready (rs := [1]) (by kernel_rfl) (by simp) ?_
  refine held_cons 1 (o := _) rfl (fun KC hKC => ?_) AllReadyH.nil
  go_simp
  with_reducible refine Calls.mono (rnum_any (RX1.out.keep ((Kept.refl (fun _ => False) w1).drew)) (Nat.le_trans (dTxt_lt RwA.out.1) (hL))) ?_
  rintro e1 wB ⟨kwB, hor⟩
  have KwB := Lib.hid (K1.out.trans (((Kept.refl (fun _ => False) w1).drew.mono (S' := fun b => b = rb) fun _ _ e => e.elim).trans kwB (fun _ _ e => e)) (fun _ _ e => .inl e))
  rcases hor with ⟨n1, r1, hdwB, rfl, hrwB⟩ | ⟨hdwB, rfl⟩
  case' inr =>
    simp only [lackE]
    try dsimp only
    refine ⟨rfl, (LB0.out.2.1.mono (S' := fun b => b = rb) fun _ _ e => e.elim).trans KwB.out (fun b hb e => e.elim id (fun e => absurd hb (Nat.not_lt.2 (by rw [e, LB0.out.1]; exact Nat.le_refl _)))), .inr ⟨?_, rfl⟩⟩
    exact cPair_none2 (A := cTxt) RwA.out.1 (cPair_none1 (A := cNum) hdwB)
  have RwB := Lib.hid (And.intro hdwB hrwB)
  have QwB := Lib.hid ((Q1.out.kept ((Kept.refl (fun _ => False) w1).drew) (fun e => e)).kept kwB LBN.out)
  have C0wB := Lib.hid ((kwB.cell (p := ⟨lb, 0, none⟩) ((Q1.out.kept ((Kept.refl (fun _ => False) w1).drew) (fun e => e))).lt LBN.out).trans (((Kept.refl (fun _ => False) w1).drew.cell (p := ⟨lb, 0, none⟩) Q1.out.lt (fun e => e)).trans C1.out))
  clear kwB hdwB hrwB TT
  have TT := Lib.hid (CX.out _ KwB.out)
  try dsimp only
  refine hKC.out _ _ ?_ (fun hHeld => ?_)
  · exact TT.out
  clear hKC KC
  try simp only [Act.put, List.setIfInBounds_toArray, List.set_cons_zero, List.set_cons_succ]
  refine held_take 8 (oi := _) (v := ?_) rfl (by kernel_rfl) (by kernel_rfl) (by kernel_rfl) (fun _ _ _ h => h) (by rfl) (fun w hSw => ?_) (by assumption) ?_
  rotate_left
  · (try dsimp only at hSw); go_simp; try with_reducible rfl
  try simp only [Act.put, List.setIfInBounds_toArray, List.set_cons_zero, List.set_cons_succ]
  refine held_take 9 (oi := _) (v := ?_) rfl (by kernel_rfl) (by kernel_rfl) (by kernel_rfl) (fun _ _ _ h => h) (by rfl) (fun w hSw => ?_) (by assumption) ?_
  rotate_left
  · (try dsimp only at hSw); go_simp; try with_reducible rfl
  try simp only [Act.put, List.setIfInBounds_toArray, List.set_cons_zero, List.set_cons_succ]
  refine wpAnyH_ready (rs := [3]) (by kernel_rfl) (by simp) ?_
  refine held_cons 3 (o := _) rfl (fun KC hKC => ?_) AllReadyH.nil
  go_simp
  with_reducible refine Calls.mono (rnum_any RwB.out.2 (Nat.le_trans (dNum_lt RwB.out.1).2 (Nat.le_trans (dTxt_lt RwA.out.1) (hL)))) ?_
  rintro e1 wC ⟨kwC, hor⟩
  have KwC := Lib.hid (KwB.out.trans kwC (fun _ _ e => .inl e))
  rcases hor with ⟨n2, r2, hdwC, rfl, hrwC⟩ | ⟨hdwC, rfl⟩
  case' inr =>
    simp only [lackE]
    try dsimp only
    refine ⟨rfl, (LB0.out.2.1.mono (S' := fun b => b = rb) fun _ _ e => e.elim).trans KwC.out (fun b hb e => e.elim id (fun e => absurd hb (Nat.not_lt.2 (by rw [e, LB0.out.1]; exact Nat.le_refl _)))), .inr ⟨?_, rfl⟩⟩
    exact cPair_none2 (A := cTxt) RwA.out.1 (cPair_none2 (A := cNum) RwB.out.1 (cPair_none1 (A := cNum) hdwC))
  have RwC := Lib.hid (And.intro hdwC hrwC)
  have QwC := Lib.hid (QwB.out.kept kwC LBN.out)
  have C0wC := Lib.hid ((kwC.cell (p := ⟨lb, 0, none⟩) QwB.out.lt LBN.out).trans C0wB.out)
  clear kwC hdwC hrwC TT
  have TT := Lib.hid (CX.out _ KwC.out)
  try dsimp only
  refine hKC.out _ _ ?_ (fun hHeld => ?_)
  · exact TT.out
  clear hKC KC
  try simp only [Act.put, List.setIfInBounds_toArray, List.set_cons_zero, List.set_cons_succ]
  refine wpAnyH_ready (rs := [5]) (by kernel_rfl) (by simp) ?_
  refine held_cons 5 (o := _) rfl (fun KC hKC => ?_) AllReadyH.nil
  go_simp
  with_reducible refine Calls.mono (rnum_any RwC.out.2 (Nat.le_trans (dNum_lt RwC.out.1).2 (Nat.le_trans (dNum_lt RwB.out.1).2 (Nat.le_trans (dTxt_lt RwA.out.1) (hL))))) ?_
  rintro e1 wD ⟨kwD, hor⟩
  have KwD := Lib.hid (KwC.out.trans kwD (fun _ _ e => .inl e))
  rcases hor with ⟨n3, r3, hdwD, rfl, hrwD⟩ | ⟨hdwD, rfl⟩
  case' inr =>
    simp only [lackE]
    try dsimp only
    refine ⟨rfl, (LB0.out.2.1.mono (S' := fun b => b = rb) fun _ _ e => e.elim).trans KwD.out (fun b hb e => e.elim id (fun e => absurd hb (Nat.not_lt.2 (by rw [e, LB0.out.1]; exact Nat.le_refl _)))), .inr ⟨?_, rfl⟩⟩
    exact cPair_none2 (A := cTxt) RwA.out.1 (cPair_none2 (A := cNum) RwB.out.1 (cPair_none2 (A := cNum) RwC.out.1 (cPair_none1 (A := cNum) hdwD)))
  have RwD := Lib.hid (And.intro hdwD hrwD)
  have QwD := Lib.hid (QwC.out.kept kwD LBN.out)
  have C0wD := Lib.hid ((kwD.cell (p := ⟨lb, 0, none⟩) QwC.out.lt LBN.out).trans C0wC.out)
  clear kwD hdwD hrwD TT
  have TT := Lib.hid (CX.out _ KwD.out)
  try dsimp only
  refine hKC.out _ _ ?_ (fun hHeld => ?_)
  · exact TT.out
  clear hKC KC
  try simp only [Act.put, List.setIfInBounds_toArray, List.set_cons_zero, List.set_cons_succ]
  refine wpAnyH_ready (rs := [7]) (by kernel_rfl) (by simp) ?_
  refine held_cons 7 (o := _) rfl (fun KC hKC => ?_) AllReadyH.nil
  go_simp
  with_reducible refine Calls.mono (rnum_any RwD.out.2 (Nat.le_trans (dNum_lt RwD.out.1).2 (Nat.le_trans (dNum_lt RwC.out.1).2 (Nat.le_trans (dNum_lt RwB.out.1).2 (Nat.le_trans (dTxt_lt RwA.out.1) (hL)))))) ?_
  rintro e1 wE ⟨kwE, hor⟩
  have KwE := Lib.hid (KwD.out.trans kwE (fun _ _ e => .inl e))
  rcases hor with ⟨n4, r4, hdwE, rfl, hrwE⟩ | ⟨hdwE, rfl⟩
  case' inr =>
    simp only [lackE]
    try dsimp only
    refine ⟨rfl, (LB0.out.2.1.mono (S' := fun b => b = rb) fun _ _ e => e.elim).trans KwE.out (fun b hb e => e.elim id (fun e => absurd hb (Nat.not_lt.2 (by rw [e, LB0.out.1]; exact Nat.le_refl _)))), .inr ⟨?_, rfl⟩⟩
    exact cPair_none2 (A := cTxt) RwA.out.1 (cPair_none2 (A := cNum) RwB.out.1 (cPair_none2 (A := cNum) RwC.out.1 (cPair_none2 (A := cNum) RwD.out.1 (cPair_none1 (A := cNum) hdwE))))
  have RwE := Lib.hid (And.intro hdwE hrwE)
  have QwE := Lib.hid (QwD.out.kept kwE LBN.out)
  have C0wE := Lib.hid ((kwE.cell (p := ⟨lb, 0, none⟩) QwD.out.lt LBN.out).trans C0wD.out)
  clear kwE hdwE hrwE TT
  have TT := Lib.hid (CX.out _ KwE.out)
  try dsimp only
  refine hKC.out _ _ ?_ (fun hHeld => ?_)
  · exact TT.out
  clear hKC KC
  try simp only [Act.put, List.setIfInBounds_toArray, List.set_cons_zero, List.set_cons_succ]
  refine wpAnyH_ready (rs := [10]) (by kernel_rfl) (by simp) ?_
  refine held_cons 10 (o := _) rfl (fun KC hKC => ?_) AllReadyH.nil
  have f9 := QwE.out.frozen 1
  obtain ⟨v9, c9⟩ := QwE.out.some (o := 1) (by omega)
  have S1 := Lib.hid (QwE.out.setCell ⟨lb, 1, none⟩ (.int .i64 (n1 : Int)))
  have KS1 := Lib.hid (KwE.out.trans (Kept.one_set _ ⟨lb, 1, none⟩ (.int .i64 (n1 : Int))) (fun b hb e => .inr e))
  clear TT
  have TT := Lib.hid (CX.out _ KS1.out)
  go_simp
  refine hKC.out _ _ ?_ (fun hHeld => ?_)
  · exact TT.out
  clear hKC KC
  try simp only [Act.put, List.setIfInBounds_toArray, List.set_cons_zero, List.set_cons_succ]
  refine held_take 11 (oi := _) (v := ?_) rfl (by kernel_rfl) (by kernel_rfl) (by kernel_rfl) (fun _ _ _ h => h) (by rfl) (fun w hSw => ?_) (by assumption) ?_
  rotate_left
  · (try dsimp only at hSw); go_simp; try with_reducible rfl
  try simp only [Act.put, List.setIfInBounds_toArray, List.set_cons_zero, List.set_cons_succ]
  refine held_take 12 (oi := _) (v := ?_) rfl (by kernel_rfl) (by kernel_rfl) (by kernel_rfl) (fun _ _ _ h => h) (by rfl) (fun w hSw => ?_) (by assumption) ?_
  rotate_left
  · (try dsimp only at hSw); go_simp; try with_reducible rfl
  try simp only [Act.put, List.setIfInBounds_toArray, List.set_cons_zero, List.set_cons_succ]
  refine wpAnyH_ready (rs := [13]) (by kernel_rfl) (by simp) ?_
  refine held_cons 13 (o := _) rfl (fun KC hKC => ?_) AllReadyH.nil
  have f9 := S1.out.frozen 2
  obtain ⟨v9, c9⟩ := S1.out.some (o := 2) (by omega)
  have S2 := Lib.hid (S1.out.setCell ⟨lb, 2, none⟩ (.int .i64 (n2 : Int)))
  have KS2 := Lib.hid (KS1.out.trans (Kept.one_set _ ⟨lb, 2, none⟩ (.int .i64 (n2 : Int))) (fun b hb e => .inr e))
  clear TT
  have TT := Lib.hid (CX.out _ KS2.out)
  go_simp
  refine hKC.out _ _ ?_ (fun hHeld => ?_)
  · exact TT.out
  clear hKC KC
  try simp only [Act.put, List.setIfInBounds_toArray, List.set_cons_zero, List.set_cons_succ]
  refine held_take 14 (oi := _) (v := ?_) rfl (by kernel_rfl) (by kernel_rfl) (by kernel_rfl) (fun _ _ _ h => h) (by rfl) (fun w hSw => ?_) (by assumption) ?_
  rotate_left
  · (try dsimp only at hSw); go_simp; try with_reducible rfl
  try simp only [Act.put, List.setIfInBounds_toArray, List.set_cons_zero, List.set_cons_succ]
  refine held_take 15 (oi := _) (v := ?_) rfl (by kernel_rfl) (by kernel_rfl) (by kernel_rfl) (fun _ _ _ h => h) (by rfl) (fun w hSw => ?_) (by assumption) ?_
  rotate_left
  · (try dsimp only at hSw); go_simp; try with_reducible rfl
  try simp only [Act.put, List.setIfInBounds_toArray, List.set_cons_zero, List.set_cons_succ]
  refine wpAnyH_ready (rs := [16]) (by kernel_rfl) (by simp) ?_
  refine held_cons 16 (o := _) rfl (fun KC hKC => ?_) AllReadyH.nil
  have f9 := S2.out.frozen 3
  obtain ⟨v9, c9⟩ := S2.out.some (o := 3) (by omega)
  have S3 := Lib.hid (S2.out.setCell ⟨lb, 3, none⟩ (.int .i64 (n3 : Int)))
  have KS3 := Lib.hid (KS2.out.trans (Kept.one_set _ ⟨lb, 3, none⟩ (.int .i64 (n3 : Int))) (fun b hb e => .inr e))
  clear TT
  have TT := Lib.hid (CX.out _ KS3.out)
  go_simp
  refine hKC.out _ _ ?_ (fun hHeld => ?_)
  · exact TT.out
  clear hKC KC
  try simp only [Act.put, List.setIfInBounds_toArray, List.set_cons_zero, List.set_cons_succ]
  refine held_take 17 (oi := _) (v := ?_) rfl (by kernel_rfl) (by kernel_rfl) (by kernel_rfl) (fun _ _ _ h => h) (by rfl) (fun w hSw => ?_) (by assumption) ?_
  rotate_left
  · (try dsimp only at hSw); go_simp; try with_reducible rfl
  try simp only [Act.put, List.setIfInBounds_toArray, List.set_cons_zero, List.set_cons_succ]
  refine held_take 18 (oi := _) (v := ?_) rfl (by kernel_rfl) (by kernel_rfl) (by kernel_rfl) (fun _ _ _ h => h) (by rfl) (fun w hSw => ?_) (by assumption) ?_
  rotate_left
  · (try dsimp only at hSw); go_simp; try with_reducible rfl
  try simp only [Act.put, List.setIfInBounds_toArray, List.set_cons_zero, List.set_cons_succ]
  refine wpAnyH_ready (rs := [19]) (by kernel_rfl) (by simp) ?_
  refine held_cons 19 (o := _) rfl (fun KC hKC => ?_) AllReadyH.nil
  have f9 := S3.out.frozen 4
  obtain ⟨v9, c9⟩ := S3.out.some (o := 4) (by omega)
  have S4 := Lib.hid (S3.out.setCell ⟨lb, 4, none⟩ (.int .i64 (n4 : Int)))
  have KS4 := Lib.hid (KS3.out.trans (Kept.one_set _ ⟨lb, 4, none⟩ (.int .i64 (n4 : Int))) (fun b hb e => .inr e))
  clear TT
  have TT := Lib.hid (CX.out _ KS4.out)
  go_simp
  refine hKC.out _ _ ?_ (fun hHeld => ?_)
  · exact TT.out
  clear hKC KC
  try simp only [Act.put, List.setIfInBounds_toArray, List.set_cons_zero, List.set_cons_succ]
  refine wpAnyH_done (by kernel_rfl) ?_ _
  obtain ⟨w5, hw5⟩ : ∃ w5, (((wE.setCell ⟨lb, 1, none⟩ (.int .i64 (n1 : Int))).setCell ⟨lb, 2, none⟩ (.int .i64 (n2 : Int))).setCell ⟨lb, 3, none⟩ (.int .i64 (n3 : Int))).setCell ⟨lb, 4, none⟩ (.int .i64 (n4 : Int)) = w5 := ⟨_, rfl⟩
  have k5e : Kept (fun b => b = lb) wE w5 := by rw [← hw5]; exact (((Kept.one_set wE ⟨lb, 1, none⟩ _).trans (Kept.one_set _ ⟨lb, 2, none⟩ _) (fun _ _ e => e)).trans (Kept.one_set _ ⟨lb, 3, none⟩ _) (fun _ _ e => e)).trans (Kept.one_set _ ⟨lb, 4, none⟩ _) (fun _ _ e => e)
  have cE0 : wE.cell? ⟨lb, 0, none⟩ = some (.string s1) := C0wE.out
  have hcells : ∀ i v, ([.string s1, .int .i64 (n1 : Int), .int .i64 (n2 : Int), .int .i64 (n3 : Int), .int .i64 (n4 : Int)] : List Value)[i]? = some v → w5.cell? ⟨lb, i, none⟩ = some v := by rw [← hw5]; exact row_set1234 QwE.out cE0
  have hrow5 : RowAt w5 lb 6 := by rw [← hw5]; exact S4.out
  have hK5 : Kept (fun b => b = rb ∨ b = lb) w0 w5 := by rw [← hw5]; exact KS4.out
  have hrd5 : RdAt w5 rb Bd r4 := RwE.out.2.kept k5e (fun e => LBN.out (Eq.symm e)) (fun b hb _ e => by have e : b = lb := e; have := H.out.2.le; have := LB0.out.1; omega)
  have hr4 : r4.length ≤ 1000000 := Nat.le_trans (dNum_lt RwE.out.1).2 (Nat.le_trans (dNum_lt RwD.out.1).2 (Nat.le_trans (dNum_lt RwC.out.1).2 (Nat.le_trans (dNum_lt RwB.out.1).2 (Nat.le_trans (dTxt_lt RwA.out.1) hL))))
  have d5 := (CX.out _ hK5)
  have TX := Lib.hid (text_any hrd5 hr4)
  have H5 := Lib.hid (And.intro hrow5 (And.intro hK5 hcells))
  rw [hw5]
  clear hw5 k5e cE0 hcells hrow5 hK5 hrd5 hr4 TT KS1 KS2 KS3 KS4 S1 S2 S3 S4 hHeld f9 c9 v9
  go_upto_region 4 with fail
  refine TX.out.mono ?_
  rintro e wF ⟨kF, ⟨s6, r6, hdF, rfl, hrF⟩ | ⟨hdF, rfl⟩⟩
  case' inr =>
    have KF := Lib.hid (And.intro kF hdF)
    clear kF hdF TX
    simp only [lackE]
    go_wp2_with fail
    refine ⟨rfl, (LB0.out.2.1.mono (S' := fun b => b = rb) fun _ _ e => e.elim).trans (H5.out.2.1.trans KF.out.1 (fun _ _ e => .inl e)) (fun b hb e => e.elim id (fun e => absurd hb (Nat.not_lt.2 (by rw [e, LB0.out.1]; exact Nat.le_refl _)))), .inr ⟨?_, rfl⟩⟩
    exact cPair_none2 (A := cTxt) RwA.out.1 (cPair_none2 (A := cNum) RwB.out.1 (cPair_none2 (A := cNum) RwC.out.1 (cPair_none2 (A := cNum) RwD.out.1 (cPair_none2 (A := cNum) RwE.out.1 KF.out.2))))
  obtain ⟨c9, w9, hcv, kq, bq, z9, hc9⟩ := bytes_made9 wF s6
  have HC9 := Lib.hid hc9
  clear hc9
  have k59 : Kept (fun b => b = rb) w5 w9 := kF.trans kq (fun _ _ e => e.elim)
  have hrow9 := H5.out.1.kept k59 LBN.out
  have f0 := hrow9.frozen 0
  have f1 := hrow9.frozen 1
  have f2 := hrow9.frozen 2
  have f3 := hrow9.frozen 3
  have f4 := hrow9.frozen 4
  have f5 := hrow9.frozen 5
  have tr : ∀ i, w9.cell? ⟨lb, i, none⟩ = w5.cell? ⟨lb, i, none⟩ := fun i => k59.cell (p := ⟨lb, i, none⟩) H5.out.1.lt LBN.out
  have e0 := (tr 0).trans (H5.out.2.2 0 _ rfl)
  have e1 := (tr 1).trans (H5.out.2.2 1 _ rfl)
  have e2 := (tr 2).trans (H5.out.2.2 2 _ rfl)
  have e3 := (tr 3).trans (H5.out.2.2 3 _ rfl)
  have e4 := (tr 4).trans (H5.out.2.2 4 _ rfl)
  obtain ⟨v5, e5⟩ := hrow9.some (o := 5) (by omega)
  have F := Lib.hid (And.intro k59 (And.intro hrow9 (And.intro hdF (And.intro (hrF.keep kq) (And.intro bq (And.intro z9 kF.size))))))
  clear tr hrow9 k59 hdF hrF kq bq z9 kF TX d5
  obtain ⟨N6, hN6⟩ : ∃ N6, s6.size = N6 := ⟨_, rfl⟩
  obtain ⟨q, hq⟩ : ∃ q, wF.heap.size = q := ⟨_, rfl⟩
  rw [hN6, hq] at hcv
  have HNQ := Lib.hid (And.intro hN6 hq)
  clear hN6 hq
  go_wp2_with fail
  obtain ⟨t9, h9⟩ := row_set6 (v0 := .string s1) (v1 := .int .i64 (n1 : Int)) (v2 := .int .i64 (n2 : Int)) (v3 := .int .i64 (n3 : Int)) (v4 := .int .i64 (n4 : Int)) (v5 := .slice (some ⟨q, 0, none⟩) N6 c9) (F.out.2.1.setCell ⟨lb, 5, none⟩ (.slice (some ⟨q, 0, none⟩) N6 c9))
  refine bodyPost_ret (results_cell_row (ty := 101) (p := 1) rfl _ _ lb t9 #[.string s1, .int .i64 (n1 : Int), .int .i64 (n2 : Int), .int .i64 (n3 : Int), .int .i64 (n4 : Int), .slice (some ⟨q, 0, none⟩) N6 c9] (0, 0) _ rfl h9 Tryz.underlying101 rfl (by kernel_rfl)) rfl ?_
  obtain ⟨k59, hrow9, hdF, hrF, bq, z9, zF⟩ := F.out
  have hlw := LB0.out.1
  have hz0 := LB0.out.2.1.size
  have hz5 := H5.out.2.1.size
  have hl5 := H5.out.1.lt
  have hle := H.out.2.le
  have hNQ := HNQ.out
  have ks : Kept (fun b => b = lb) w9 _ := (((((((Kept.one_set w9 ⟨lb, 5, none⟩ (.slice (some ⟨q, 0, none⟩) N6 c9)).trans (Kept.one_set _ ⟨lb, 0, none⟩ (.string s1)) (fun _ _ e => e)).trans (Kept.one_set _ ⟨lb, 1, none⟩ (.int .i64 (n1 : Int))) (fun _ _ e => e)).trans (Kept.one_set _ ⟨lb, 2, none⟩ (.int .i64 (n2 : Int))) (fun _ _ e => e)).trans (Kept.one_set _ ⟨lb, 3, none⟩ (.int .i64 (n3 : Int))) (fun _ _ e => e)).trans (Kept.one_set _ ⟨lb, 4, none⟩ (.int .i64 (n4 : Int))) (fun _ _ e => e)).trans (Kept.one_set _ ⟨lb, 5, none⟩ (.slice (some ⟨q, 0, none⟩) N6 c9)) (fun _ _ e => e))
  refine ⟨?_, .inl ⟨(s1, n1, n2, n3, n4, s6), r6, some ⟨q, 0, none⟩, c9, ?_, by rw [← hNQ.1], ?_, ⟨?_, fun b o _ e => ?_⟩, hrF.kept ks (fun e => by have e : rb = lb := e; exact LBN.out e.symm) (fun b hb _ e => by have e : b = lb := e; omega)⟩⟩
  · exact ((LB0.out.2.1.mono (S' := fun b => b = rb) fun _ _ e => e.elim).trans ((H5.out.2.1.trans k59 (fun _ _ e => .inl e)).trans ks (fun _ _ e => .inr e)) (fun b hb e => e.elim id (fun e => absurd hb (Nat.not_lt.2 (by rw [e, LB0.out.1]; exact Nat.le_refl _)))))
  · exact cPair_some (A := cTxt) RwA.out.1 (cPair_some (A := cNum) RwB.out.1 (cPair_some (A := cNum) RwC.out.1 (cPair_some (A := cNum) RwD.out.1 (cPair_some (A := cNum) RwE.out.1 hdF))))
  · exact HC9.out
  · have bq' := bq
    rw [hNQ.2] at bq'
    exact bq'.kept ks (fun b o e e' => by cases e; have e' : q = lb := e'; omega)
  · cases e
    show w.heap.size ≤ q
    omega
end Go.Proofs.YtdkcnigghcbnpaaGreat

/- image's reader: rows of maps and their entries. -/
namespace Go.Proofs.YtdkcnigghcbnpaaGreat
set_option linter.unusedVariables false
set_option linter.unusedSimpArgs false
open Go.RowKit Go.MapKept

theorem dumpE : Elem Tryz.prog 72 101 (.agg #[.string ⟨#[]⟩, .int .i64 0, .int .i64 0, .int .i64 0, .int .i64 0, .slice none 0 0]) 6 72 := ⟨Tryz.underlying72, by kernel_rfl, rfl, by omega⟩
theorem cD_lt {L r : List UInt8} {x : IDm} (h : cD.dec L = some (x, r)) : r.length ≤ L.length := by
  obtain ⟨-, h2⟩ := cD.bwd _ _ _ h
  rw [h2, List.length_append]
  omega
set_option maxRecDepth 100000 in
set_option maxHeartbeats 4000000 in
theorem rowsD_any {w : World} {xb rb Bd : Nat} {L : List UInt8} (hx : Box w xb (.pointer (some ⟨rb, 0, none⟩))) (hne : xb ≠ rb) (h : RdAt w rb Bd L) (hL : L.length ≤ 1000000) :
    Calls Tryz.prog 98 #[.pointer (some ⟨rb, 0, none⟩), .func (.func 99) #[] #[.pointer (some ⟨xb, 0, none⟩)]] w fun e w' => Kept (fun b => b = rb) w w' ∧ ((∃ l r sv, (cRows cD 64 (by decide)).dec L = some (l, r) ∧ e = .returned sv ∧ OwnT tDump 101 w' (fun b => w.heap.size ≤ b) sv (l.map intD) ∧ RdAt w' rb Bd r) ∨ ((cRows cD 64 (by decide)).dec L = none ∧ e = lackE)) := by
  have N := Lib.hid (rnum_any h hL)
  have HR := Lib.hid (And.intro h.row.lt h.le)
  have HX := Lib.hid (And.intro hx hx.lt)
  clear h hx
  go_enter Tryz.func98, Tryz.ntmps98
  go_wp2_with fail
  refine N.out.mono ?_
  rintro e w1 ⟨k1, ⟨n, r0, hd, rfl, hrd⟩ | ⟨hd, rfl⟩⟩
  · obtain ⟨hn, hr0⟩ := dNum_lt hd
    have K1 := Lib.hid (And.intro k1 (And.intro hd hrd))
    clear k1 hd hrd N
    by_cases hn64 : n ≤ 64
    · have h64 : ¬ (64 : Int) < (n : Int) := by omega
      have hdec : (cRows cD 64 (by decide)).dec L = repD cD n r0 := by
        show (match dNum L with | some (n, r) => if 64 < n then none else repD cD n r | none => none) = _
        rw [K1.out.2.1]
        simp only
        rw [if_neg (by omega)]
      have HD := Lib.hid hdec
      clear hdec
      go_wp2_with fail
      go_loopw [4, 13] (fun s4 s13 wr => ∃ (i : Nat) (l : List IDm) (r : List UInt8) (c4 : Nat) (a4 : Option Addr), i ≤ n ∧ s13 = .int .i64 (i : Int) ∧ repD cD i r0 = some (l, r) ∧ l.length = i ∧ r.length ≤ 1000000 ∧ s4 = .slice a4 i c4 ∧ OwnT tDump 101 wr (fun b => w.heap.size ≤ b) (.slice a4 i c4) (l.map intD) ∧ RdAt wr rb Bd r ∧ Kept (fun b => b = rb) w wr) (fun _ s13 _ => n - (intOf s13).toNat)
      case atStart => exact ⟨0, [], r0, 0, none, Nat.zero_le _, rfl, rfl, rfl, by omega, rfl, OwnT.nil, K1.out.2.2, K1.out.1⟩
      case round =>
        obtain ⟨i, l, r, c4, a4, hi, rfl, hrep, hll, hrl, rfl, hown, hrd, hk⟩ := hrel
        have TX := Lib.hid (dump_any (HX.out.1.kept hk hne) hne hrd hrl)
        have R := Lib.hid (And.intro hrep (And.intro hown (And.intro hll (And.intro hrd hk))))
        clear hrep hown hrd hk
        by_cases hlt : i < n
        · have hin : (i : Int) < (n : Int) := by omega
          clear hll
          go_wp2_with fail
          refine TX.out.mono ?_
          rintro e w2 ⟨k2, ⟨⟨nm, kd, ks, vs, mx, dt⟩, r', da, dc, hd, rfl, hdc, hbz, hrd⟩ | ⟨hd, rfl⟩⟩
          · obtain ⟨hrb, hBd⟩ := HR.out
            have hzw := R.out.2.2.2.2.size
            obtain ⟨css, ho, hcl, hat, hz⟩ := (R.out.2.1.kept k2 (fun b _ hb e => by have e : b = rb := e; have hb : w.heap.size ≤ b := hb; omega))
            have hlm : (l.map intD).length = i := by rw [List.length_map]; exact R.out.2.2.1
            have hx0 : tDump.at_ w2 (fun b => wr.heap.size ≤ b) (intD (nm, kd, ks, vs, mx, dt)) [.string nm, .int .i64 (kd : Int), .int .i64 (ks : Int), .int .i64 (vs : Int), .int .i64 (mx : Int), .slice da dt.size dc] := ⟨da, dc, rfl, hdc, hbz⟩
            have hol : ∀ b, (Value.slice a4 i c4).ownBlock = some b → b < wr.heap.size := fun b e => by
              obtain ⟨_, ho', _⟩ := R.out.2.1
              exact (ho'.lt b e).2
            have hx1 : tDump.at_ w2 (fun b => w.heap.size ≤ b ∧ (Value.slice a4 i c4).ownBlock ≠ some b) (intD (nm, kd, ks, vs, mx, dt)) [.string nm, .int .i64 (kd : Int), .int .i64 (ks : Int), .int .i64 (vs : Int), .int .i64 (mx : Int), .slice da dt.size dc] := tDump.mono hx0 (fun b _ hb => ⟨by have hb : wr.heap.size ≤ b := hb; omega, fun e => by have := hol b e; have hb : wr.heap.size ≤ b := hb; omega⟩)
            rw [hlm] at ho hcl
            have kq := Kept.one_alloc w2 (.cells #[.string nm, .int .i64 (kd : Int), .int .i64 (ks : Int), .int .i64 (vs : Int), .int .i64 (mx : Int), .slice da dt.size dc] 101)
            have HROW := Lib.hid (ownsRow_kept ho kq (fun _ _ e => e))
            have X := Lib.hid (And.intro k2 (And.intro hd (And.intro hrd (And.intro hcl (And.intro hat (And.intro hz (And.intro hx1 hlm)))))))
            have HLL := Lib.hid (show i + 1 ≤ 64 from by omega)
            clear ho k2 hd hrd TX hcl hat hz hx0 hx1 hol kq hlm hdc hbz
            go_wp2_with (at_builtin; refine wpList_append_mine rfl _ _ dumpE rfl rfl HROW.out (some ⟨w2.heap.size, 0, none⟩) 1 1 [.string nm, .int .i64 (kd : Int), .int .i64 (ks : Int), .int .i64 (vs : Int), .int .i64 (mx : Int), .slice da dt.size dc] rfl rfl (holds_block (heap_alloc_new w2 _)) (by simp [Value.oneCell']) (Nat.le_trans HLL.out (by decide)) (Nat.le_trans (Nat.mul_le_mul_right 72 HLL.out) (by decide)) ?_; intro a3 c3 w6 own6 k6 b6; have O6 := Lib.hid (And.intro own6 (And.intro k6 b6)); clear own6 k6 b6)
            obtain ⟨k2, hd, hrd, hcl, hat, hz, hx1, hlm⟩ := X.out
            have kq := Kept.one_alloc w2 (.cells #[.string nm, .int .i64 (kd : Int), .int .i64 (ks : Int), .int .i64 (vs : Int), .int .i64 (mx : Int), .slice da dt.size dc] 101)
            have hzq := kq.size
            have hz2 := k2.size
            have hsn := OwnT.snoc (T := tDump) (l := l.map intD) (x := intD (nm, kd, ks, vs, mx, dt)) (css := css) (Z := fun b => w.heap.size ≤ b) (by rw [hlm]; exact HROW.out) (by rw [hlm]; exact hcl) (fun i x cs h1 h2 => tDump.kept (hat i x cs h1 h2) kq (fun _ _ _ e => e)) hz (tDump.kept hx1 kq (fun _ _ _ e => e)) (by rw [hlm]; exact O6.out.1) O6.out.2.1 O6.out.2.2
            have hown6 : OwnT tDump 101 w6 (fun b => w.heap.size ≤ b) (.slice a3 (i + 1) c3) ((l ++ [(nm, kd, ks, vs, mx, dt)]).map intD) := by
              rw [List.map_append]
              exact hsn.mono (fun b _ hb => hb.elim id (fun e => by show w.heap.size ≤ b; omega))
            have hk6 : Kept (fun b => b = rb) w w6 := ((R.out.2.2.2.2.trans k2 (fun _ _ e => e)).trans kq (fun _ _ e => e.elim)).trans O6.out.2.1 (fun b hb e => absurd hb (Nat.not_lt.2 (hz b e)))
            have hrd6 : RdAt w6 rb Bd r' := (hrd.keep kq).kept O6.out.2.1 (fun e => by have := hz rb e; omega) (fun b hb _ e => by have := hz b e; omega)
            refine ⟨⟨i + 1, l ++ [(nm, kd, ks, vs, mx, dt)], r', c3, a3, hlt, rfl, ?_, by rw [List.length_append, R.out.2.2.1]; rfl, Nat.le_trans (cD_lt hd) hrl, rfl, hown6, hrd6, hk6⟩, by simp only [intOf]; omega⟩
            rw [repD_snoc cD i r0 l r R.out.1]
            rw [hd]
          · have X := Lib.hid (And.intro k2 hd)
            clear k2 hd
            simp only [lackE]
            go_wp2_with fail
            refine ⟨rfl, R.out.2.2.2.2.trans X.out.1 (fun _ _ e => e), .inr ⟨?_, rfl⟩⟩
            rw [HD.out]
            exact repD_stop cD R.out.1 X.out.2 n hlt
        · obtain rfl : i = n := by omega
          go_wp2_with fail
          go_ret
          exact ⟨R.out.2.2.2.2, .inl ⟨l, r, _, by rw [HD.out]; exact R.out.1, rfl, R.out.2.1, R.out.2.2.2.1⟩⟩
    · have h64 : (64 : Int) < (n : Int) := by omega
      have HN := Lib.hid hn64
      clear hn64
      go_wp2_with fail
      refine ⟨rfl, K1.out.1, .inr ⟨?_, rfl⟩⟩
      show (match dNum L with | some (n, r) => if 64 < n then none else repD cD n r | none => none) = none
      rw [K1.out.2.1]
      simp only
      rw [if_pos (by have := HN.out; omega)]
  · have K := Lib.hid (And.intro k1 hd)
    clear k1 hd
    simp only [lackE]
    go_wp2_with fail
    refine ⟨rfl, K.out.1, .inr ⟨?_, rfl⟩⟩
    show (match dNum L with | some (n, r) => if 64 < n then none else repD cD n r | none => none) = none
    rw [K.out.2]
end Go.Proofs.YtdkcnigghcbnpaaGreat

/- image's reader: a program. -/
namespace Go.Proofs.YtdkcnigghcbnpaaGreat
set_option linter.unusedVariables false
set_option linter.unusedSimpArgs false
open Go.RowKit Go.MapKept

theorem cRows_lt {α : Type} {A : Codec α} {M : Nat} {hM : M < 4294967296} {L r : List UInt8} {l : List α} (h : (cRows A M hM).dec L = some (l, r)) : r.length ≤ L.length := by
  obtain ⟨-, h2⟩ := (cRows A M hM).bwd _ _ _ h
  rw [h2, List.length_append]
  omega
theorem cTxts_lt {L r : List UInt8} {l : List ByteArray} (h : cTxts.dec L = some (l, r)) : r.length ≤ L.length := cRows_lt (A := cTxt) (M := 64) (hM := by decide) h
theorem strV_own {w : World} {Z : Nat → Prop} {sv : Value} {l : List ByteArray} (h : w.ownsRow 0 9 1 sv l.length (strV l)) (hb : ∀ b, sv.ownBlock = some b → Z b) : OwnT tStr 9 w Z sv l := by
  refine ⟨l.map fun x => [.string x], ?_, by simp, fun i x cs hx hc => ?_, hb⟩
  · have e : (l.map fun x : ByteArray => ([.string x] : List Value)).flatten = strV l := by
      unfold strV
      clear h
      induction l with
      | nil => rfl
      | cons a l ih => rw [List.map_cons, List.flatten_cons, ih]; rfl
    rw [e]
    exact h
  · rw [List.getElem?_map, hx] at hc
    cases hc
    rfl
theorem row_set5 {w : World} {b : Nat} {v0 v1 v2 v3 v4 : Value} (h : RowAt w b 5) : ∃ t, (((((w.setCell ⟨b, 0, none⟩ v0).setCell ⟨b, 1, none⟩ v1).setCell ⟨b, 2, none⟩ v2).setCell ⟨b, 3, none⟩ v3).setCell ⟨b, 4, none⟩ v4).heap[b]? = some (.cells #[v0, v1, v2, v3, v4] t (0, 0)) := by
  obtain ⟨c, t, h1, h2⟩ := h
  obtain ⟨l⟩ := c
  match l, h2 with
  | [a0, a1, a2, a3, a4], _ =>
    refine ⟨t, ?_⟩
    simp [World.setCell, Array.getElem?_modify, h1]
set_option maxRecDepth 100000 in
set_option maxHeartbeats 4000000 in
theorem prog_any {w : World} {xb rb Bd : Nat} {L : List UInt8} (hx : Box w xb (.pointer (some ⟨rb, 0, none⟩))) (hne : xb ≠ rb) (h : RdAt w rb Bd L) (hL : L.length ≤ 1000000) :
    Calls Tryz.prog 95 #[.pointer (some ⟨xb, 0, none⟩)] w fun e w' => Kept (fun b => b = rb) w w' ∧ ((∃ x r ca cc ma mc, cP.dec L = some (x, r) ∧ e = .returned (.agg #[.string x.1, .slice ca x.2.1.size cc, .slice ma x.2.2.1.length mc, .int .i64 (x.2.2.2.1 : Int), .int .i64 (x.2.2.2.2 : Int)]) ∧ x.2.1.size ≤ cc ∧ x.2.2.1.length ≤ mc ∧ BytZ w' (fun b => w.heap.size ≤ b) ca x.2.1 ∧ RowZ tStr w' (fun b => w.heap.size ≤ b) ma x.2.2.1 ∧ RdAt w' rb Bd r) ∨ (cP.dec L = none ∧ e = lackE)) := by
  have H := Lib.hid (And.intro hx h)
  clear hx h
  go_enter Tryz.func95, Tryz.ntmps95
  go_upto_region 1 with fail
  obtain ⟨lb, hlb⟩ : ∃ lb, w.heap.size = lb := ⟨_, rfl⟩
  obtain ⟨w0, hw0⟩ : ∃ w0, w.alloc (.cells #[.string ⟨#[]⟩, .slice none 0 0, .slice none 0 0, .int .i64 0, .int .i64 0] 99) = w0 := ⟨_, rfl⟩
  have k0 : Kept (fun _ => False) w w0 := by rw [← hw0]; exact Kept.one_alloc _ _
  have RW := Lib.hid (show RowAt w0 lb 5 from by rw [← hw0, ← hlb]; exact RowAt.new w _ _)
  have hrl : rb < lb := by rw [← hlb]; exact H.out.2.row.lt
  have LB0 := Lib.hid (And.intro hlb (And.intro k0 (And.intro hrl trivial)))
  have LBN := Lib.hid (show ¬ lb = rb from by omega)
  have CX := Lib.hid (show ∀ w', Kept (fun b => b = rb ∨ b = lb) w0 w' → w'.cell? ⟨xb, 0, none⟩ = some (.pointer (some ⟨rb, 0, none⟩)) from fun w' k => ((H.out.1.kept k0 (fun e => e)).kept k (fun e => e.elim hne (fun e => by have := H.out.1.lt; omega))).cell)
  have RD := Lib.hid (H.out.2.keep k0)
  have KK := Lib.hid (Kept.refl (fun b => b = rb ∨ b = lb) w0)
  have TT := Lib.hid True.intro
  have RZ := Lib.hid (show RowZ tStr w0 (fun b => lb < b) none [] from RowZ.nil)
  obtain ⟨q9, n9, k9, hb9⟩ : ∃ q9 n9 k9, BytesAt w0 (some ⟨q9, 0, none⟩) n9 k9 ∧ lb < q9 ∧ q9 ≠ rb := ⟨lb + 1, 0, ByteArray.empty, ⟨rfl, fun h => absurd h (Nat.lt_irrefl 0), fun i hi => absurd hi (Nat.not_lt_zero i)⟩, by omega, by omega⟩
  have BB := Lib.hid hb9
  have C0 := Lib.hid (RW.out.some (o := 0) (by omega)).choose_spec
  have C1 := Lib.hid (RW.out.some (o := 1) (by omega)).choose_spec
  have C2 := Lib.hid (RW.out.some (o := 2) (by omega)).choose_spec
  have C3 := Lib.hid (RW.out.some (o := 3) (by omega)).choose_spec
  have C4 := Lib.hid (RW.out.some (o := 4) (by omega)).choose_spec
  rw [hw0, hlb]
  clear hlb hw0 k0 hrl hb9
  rename World => wX
  have kX := (Kept.refl (fun _ => False) wX).drew
  have C0 := Lib.hid ((kX.cell (p := ⟨lb, 0, none⟩) RW.out.lt (fun e => e)).trans C0.out)
  have C1 := Lib.hid ((kX.cell (p := ⟨lb, 1, none⟩) RW.out.lt (fun e => e)).trans C1.out)
  have C2 := Lib.hid ((kX.cell (p := ⟨lb, 2, none⟩) RW.out.lt (fun e => e)).trans C2.out)
  have C3 := Lib.hid ((kX.cell (p := ⟨lb, 3, none⟩) RW.out.lt (fun e => e)).trans C3.out)
  have C4 := Lib.hid ((kX.cell (p := ⟨lb, 4, none⟩) RW.out.lt (fun e => e)).trans C4.out)
  have KK := Lib.hid (KK.out.trans kX (fun _ _ e => e.elim))
  have RW := Lib.hid (RW.out.kept kX (fun e => e))
  have RD := Lib.hid (RD.out.keep kX)
  have RZ := Lib.hid (RZ.out.keep kX)
  have BB := Lib.hid (And.intro (BB.out.1.kept kX (fun _ _ _ e => e)) BB.out.2)
  clear kX TT
  have TT := Lib.hid (CX.out _ KK.out)
  refine wp_region_heldQ (S := fun w' => w'.cell? ⟨xb, 0, none⟩ = some (.pointer (some ⟨rb, 0, none⟩))) (by kernel_rfl) ?_ (fun hHeld => ?_)
  · exact TT.out
  refine held_take 0 (oi := _) (v := ?_) rfl (by kernel_rfl) (by kernel_rfl) (by kernel_rfl) (fun _ _ _ h => h) (by rfl) (fun w hSw => ?_) (by assumption) ?_
  rotate_left
  · (try dsimp only at hSw); go_simp; try with_reducible rfl
  try simp only [Act.put, List.setIfInBounds_toArray, List.set_cons_zero, List.set_cons_succ]
  refine held_take 2 (oi := _) (v := ?_) rfl (by kernel_rfl) (by kernel_rfl) (by kernel_rfl) (fun _ _ _ h => h) (by rfl) (fun w hSw => ?_) (by assumption) ?_
  rotate_left
  · (try dsimp only at hSw); go_simp; try with_reducible rfl
  try simp only [Act.put, List.setIfInBounds_toArray, List.set_cons_zero, List.set_cons_succ]
  refine wpAnyH_ready (rs := [1]) (by kernel_rfl) (by simp) ?_
  refine held_cons 1 (o := _) rfl (fun KC hKC => ?_) AllReadyH.nil
  go_simp
  with_reducible refine Calls.mono (text_any RD.out (hL)) ?_
  rintro e1 wY ⟨kX, hor⟩
  have C0 := Lib.hid ((kX.cell (p := ⟨lb, 0, none⟩) RW.out.lt LBN.out).trans C0.out)
  have C1 := Lib.hid ((kX.cell (p := ⟨lb, 1, none⟩) RW.out.lt LBN.out).trans C1.out)
  have C2 := Lib.hid ((kX.cell (p := ⟨lb, 2, none⟩) RW.out.lt LBN.out).trans C2.out)
  have C3 := Lib.hid ((kX.cell (p := ⟨lb, 3, none⟩) RW.out.lt LBN.out).trans C3.out)
  have C4 := Lib.hid ((kX.cell (p := ⟨lb, 4, none⟩) RW.out.lt LBN.out).trans C4.out)
  have KK := Lib.hid (KK.out.trans kX (fun _ _ e => .inl e))
  have RW := Lib.hid (RW.out.kept kX LBN.out)
  have BB := Lib.hid (And.intro (BB.out.1.kept kX (fun b o e e' => by cases e; exact BB.out.2.2 e')) BB.out.2)
  have RZ := Lib.hid (RZ.out.kept kX (fun b _ hz e => by have e : b = rb := e; have := LB0.out.2.2.1; have hz : lb < b := hz; omega))
  rename World => wX
  rcases hor with ⟨s1, r1, hdX, rfl, hrX⟩ | ⟨hdX, rfl⟩
  case' inr =>
    simp only [lackE]
    try dsimp only
    refine ⟨rfl, (LB0.out.2.1.mono (S' := fun b => b = rb) fun _ _ e => e.elim).trans KK.out (fun b hb e => e.elim id (fun e => absurd hb (Nat.not_lt.2 (by rw [e, LB0.out.1]; exact Nat.le_refl _)))), .inr ⟨?_, rfl⟩⟩
    exact cPair_none1 (A := cTxt) hdX
  have D1 := Lib.hid hdX
  clear RD
  have RD := Lib.hid hrX
  clear kX hdX hrX TT
  have TT := Lib.hid (CX.out _ KK.out)
  try dsimp only
  refine hKC.out _ _ ?_ (fun hHeld => ?_)
  · exact TT.out
  clear hKC KC
  try simp only [Act.put, List.setIfInBounds_toArray, List.set_cons_zero, List.set_cons_succ]
  refine held_take 5 (oi := _) (v := ?_) rfl (by kernel_rfl) (by kernel_rfl) (by kernel_rfl) (fun _ _ _ h => h) (by rfl) (fun w hSw => ?_) (by assumption) ?_
  rotate_left
  · (try dsimp only at hSw); go_simp; try with_reducible rfl
  try simp only [Act.put, List.setIfInBounds_toArray, List.set_cons_zero, List.set_cons_succ]
  refine wpAnyH_ready (rs := [3]) (by kernel_rfl) (by simp) ?_
  refine held_cons 3 (o := _) rfl (fun KC hKC => ?_) AllReadyH.nil
  go_simp
  with_reducible refine Calls.mono (text_any RD.out (Nat.le_trans (dTxt_lt D1.out) hL)) ?_
  rintro e1 wY ⟨kX, hor⟩
  have C0 := Lib.hid ((kX.cell (p := ⟨lb, 0, none⟩) RW.out.lt LBN.out).trans C0.out)
  have C1 := Lib.hid ((kX.cell (p := ⟨lb, 1, none⟩) RW.out.lt LBN.out).trans C1.out)
  have C2 := Lib.hid ((kX.cell (p := ⟨lb, 2, none⟩) RW.out.lt LBN.out).trans C2.out)
  have C3 := Lib.hid ((kX.cell (p := ⟨lb, 3, none⟩) RW.out.lt LBN.out).trans C3.out)
  have C4 := Lib.hid ((kX.cell (p := ⟨lb, 4, none⟩) RW.out.lt LBN.out).trans C4.out)
  have KK := Lib.hid (KK.out.trans kX (fun _ _ e => .inl e))
  have RW := Lib.hid (RW.out.kept kX LBN.out)
  have BB := Lib.hid (And.intro (BB.out.1.kept kX (fun b o e e' => by cases e; exact BB.out.2.2 e')) BB.out.2)
  have RZ := Lib.hid (RZ.out.kept kX (fun b _ hz e => by have e : b = rb := e; have := LB0.out.2.2.1; have hz : lb < b := hz; omega))
  rename World => wX
  rcases hor with ⟨s2, r2, hdX, rfl, hrX⟩ | ⟨hdX, rfl⟩
  case' inr =>
    simp only [lackE]
    try dsimp only
    refine ⟨rfl, (LB0.out.2.1.mono (S' := fun b => b = rb) fun _ _ e => e.elim).trans KK.out (fun b hb e => e.elim id (fun e => absurd hb (Nat.not_lt.2 (by rw [e, LB0.out.1]; exact Nat.le_refl _)))), .inr ⟨?_, rfl⟩⟩
    exact cPair_none2 (A := cTxt) D1.out (cPair_none1 (A := cTxt) hdX)
  have D2 := Lib.hid hdX
  clear RD
  have RD := Lib.hid hrX
  clear kX hdX hrX TT
  have TT := Lib.hid (CX.out _ KK.out)
  try dsimp only
  refine hKC.out _ _ ?_ (fun hHeld => ?_)
  · exact TT.out
  clear hKC KC
  try simp only [Act.put, List.setIfInBounds_toArray, List.set_cons_zero, List.set_cons_succ]
  refine wpAnyH_ready (rs := [4, 6]) (by kernel_rfl) (by simp) ?_
  refine held_cons 4 (o := _) rfl (fun KC hKC => ?_) (held_cons 6 (o := _) rfl (fun KC hKC => ?_) AllReadyH.nil)
  ·
    obtain ⟨c9, w9, hcv, kX, bq, z9, hc9⟩ := bytes_made9 wX s2
    obtain ⟨q9, hq9⟩ : ∃ q9, wX.heap.size = q9 := ⟨_, rfl⟩
    obtain ⟨n9, hn9⟩ : ∃ n9, s2.size = n9 := ⟨_, rfl⟩
    rw [hq9, hn9] at hcv bq
    have hql : lb < q9 := by have := RW.out.lt; omega
    have hqr : q9 ≠ rb := by have := RD.out.row.lt; omega
    have C0 := Lib.hid ((kX.cell (p := ⟨lb, 0, none⟩) RW.out.lt (fun e => e)).trans C0.out)
    have C1 := Lib.hid ((kX.cell (p := ⟨lb, 1, none⟩) RW.out.lt (fun e => e)).trans C1.out)
    have C2 := Lib.hid ((kX.cell (p := ⟨lb, 2, none⟩) RW.out.lt (fun e => e)).trans C2.out)
    have C3 := Lib.hid ((kX.cell (p := ⟨lb, 3, none⟩) RW.out.lt (fun e => e)).trans C3.out)
    have C4 := Lib.hid ((kX.cell (p := ⟨lb, 4, none⟩) RW.out.lt (fun e => e)).trans C4.out)
    have KK := Lib.hid (KK.out.trans kX (fun _ _ e => e.elim))
    have RW := Lib.hid (RW.out.kept kX (fun e => e))
    have RD := Lib.hid (RD.out.keep kX)
    have RZ := Lib.hid (RZ.out.keep kX)
    clear BB
    have BB := Lib.hid (And.intro bq (And.intro hql hqr))
    have CC := Lib.hid (And.intro hn9 (And.intro hc9 hq9))
    rw [if_pos (by rfl)]
    go_simp
    try (rw [hcv]; go_simp)
    clear hcv kX bq z9 hc9 hq9 hn9 TT hql hqr
    rename World => wX
    have TT := Lib.hid (CX.out _ KK.out)
    refine hKC.out _ _ ?_ (fun hHeld => ?_)
    · exact TT.out
    clear hKC KC
    try simp only [Act.put, List.setIfInBounds_toArray, List.set_cons_zero, List.set_cons_succ]
    refine wpAnyH_ready (rs := [6]) (by kernel_rfl) (by simp) ?_
    refine held_cons 6 (o := _) rfl (fun KC hKC => ?_) AllReadyH.nil
    have f9 := RW.out.frozen 0
    obtain ⟨v9, c9'⟩ := RW.out.some (o := 0) (by omega)
    go_simp
    have kX := Kept.one_set wX ⟨lb, 0, none⟩ (.string s1)
    have C0 := Lib.hid (cell_set_same RW.out (o := 0) (by omega) (.string s1))
    have C1 := Lib.hid ((show (wX.setCell ⟨lb, 0, none⟩ (.string s1)).cell? ⟨lb, 1, none⟩ = wX.cell? ⟨lb, 1, none⟩ from World.cell?_setCell_other _ _ _ _ (by simp)).trans C1.out)
    have C2 := Lib.hid ((show (wX.setCell ⟨lb, 0, none⟩ (.string s1)).cell? ⟨lb, 2, none⟩ = wX.cell? ⟨lb, 2, none⟩ from World.cell?_setCell_other _ _ _ _ (by simp)).trans C2.out)
    have C3 := Lib.hid ((show (wX.setCell ⟨lb, 0, none⟩ (.string s1)).cell? ⟨lb, 3, none⟩ = wX.cell? ⟨lb, 3, none⟩ from World.cell?_setCell_other _ _ _ _ (by simp)).trans C3.out)
    have C4 := Lib.hid ((show (wX.setCell ⟨lb, 0, none⟩ (.string s1)).cell? ⟨lb, 4, none⟩ = wX.cell? ⟨lb, 4, none⟩ from World.cell?_setCell_other _ _ _ _ (by simp)).trans C4.out)
    have KK := Lib.hid (KK.out.trans kX (fun b hb e => .inr e))
    have RD := Lib.hid (RD.out.kept kX (fun e => LBN.out (Eq.symm e)) (fun b hb _ e => by have e : b = lb := e; have := H.out.2.le; have := LB0.out.1; omega))
    have BB := Lib.hid (And.intro (BB.out.1.kept kX (fun b o e e' => by cases e; have e' : q9 = lb := e'; have := BB.out.2.1; omega)) BB.out.2)
    have RZ := Lib.hid (RZ.out.kept kX (fun b _ hz e => by have e : b = lb := e; have hz : lb < b := hz; omega))
    have RW := Lib.hid (RW.out.setCell ⟨lb, 0, none⟩ (.string s1))
    obtain ⟨wY, hwY⟩ : ∃ wY, wX.setCell ⟨lb, 0, none⟩ (.string s1) = wY := ⟨_, rfl⟩
    rw [hwY] at C0 C1 C2 C3 C4 KK RD BB RZ RW ⊢
    clear hwY kX f9 v9 c9' TT
    rename World => wX
    have TT := Lib.hid (CX.out _ KK.out)
    refine hKC.out _ _ ?_ (fun hHeld => ?_)
    · exact TT.out
    clear hKC KC
    try simp only [Act.put, List.setIfInBounds_toArray, List.set_cons_zero, List.set_cons_succ]
    refine held_take 7 (oi := _) (v := ?_) rfl (by kernel_rfl) (by kernel_rfl) (by kernel_rfl) (fun _ _ _ h => h) (by rfl) (fun w hSw => ?_) (by assumption) ?_
    rotate_left
    · (try dsimp only at hSw); go_simp; try with_reducible rfl
    try simp only [Act.put, List.setIfInBounds_toArray, List.set_cons_zero, List.set_cons_succ]
    refine wpAnyH_ready (rs := [8]) (by kernel_rfl) (by simp) ?_
    refine held_cons 8 (o := _) rfl (fun KC hKC => ?_) AllReadyH.nil
    have f9 := RW.out.frozen 1
    obtain ⟨v9, c9'⟩ := RW.out.some (o := 1) (by omega)
    go_simp
    have kX := Kept.one_set wX ⟨lb, 1, none⟩ (.slice (some ⟨q9, 0, none⟩) n9 c9)
    have C1 := Lib.hid (cell_set_same RW.out (o := 1) (by omega) (.slice (some ⟨q9, 0, none⟩) n9 c9))
    have C0 := Lib.hid ((show (wX.setCell ⟨lb, 1, none⟩ (.slice (some ⟨q9, 0, none⟩) n9 c9)).cell? ⟨lb, 0, none⟩ = wX.cell? ⟨lb, 0, none⟩ from World.cell?_setCell_other _ _ _ _ (by simp)).trans C0.out)
    have C2 := Lib.hid ((show (wX.setCell ⟨lb, 1, none⟩ (.slice (some ⟨q9, 0, none⟩) n9 c9)).cell? ⟨lb, 2, none⟩ = wX.cell? ⟨lb, 2, none⟩ from World.cell?_setCell_other _ _ _ _ (by simp)).trans C2.out)
    have C3 := Lib.hid ((show (wX.setCell ⟨lb, 1, none⟩ (.slice (some ⟨q9, 0, none⟩) n9 c9)).cell? ⟨lb, 3, none⟩ = wX.cell? ⟨lb, 3, none⟩ from World.cell?_setCell_other _ _ _ _ (by simp)).trans C3.out)
    have C4 := Lib.hid ((show (wX.setCell ⟨lb, 1, none⟩ (.slice (some ⟨q9, 0, none⟩) n9 c9)).cell? ⟨lb, 4, none⟩ = wX.cell? ⟨lb, 4, none⟩ from World.cell?_setCell_other _ _ _ _ (by simp)).trans C4.out)
    have KK := Lib.hid (KK.out.trans kX (fun b hb e => .inr e))
    have RD := Lib.hid (RD.out.kept kX (fun e => LBN.out (Eq.symm e)) (fun b hb _ e => by have e : b = lb := e; have := H.out.2.le; have := LB0.out.1; omega))
    have BB := Lib.hid (And.intro (BB.out.1.kept kX (fun b o e e' => by cases e; have e' : q9 = lb := e'; have := BB.out.2.1; omega)) BB.out.2)
    have RZ := Lib.hid (RZ.out.kept kX (fun b _ hz e => by have e : b = lb := e; have hz : lb < b := hz; omega))
    have RW := Lib.hid (RW.out.setCell ⟨lb, 1, none⟩ (.slice (some ⟨q9, 0, none⟩) n9 c9))
    obtain ⟨wY, hwY⟩ : ∃ wY, wX.setCell ⟨lb, 1, none⟩ (.slice (some ⟨q9, 0, none⟩) n9 c9) = wY := ⟨_, rfl⟩
    rw [hwY] at C0 C1 C2 C3 C4 KK RD BB RZ RW ⊢
    clear hwY kX f9 v9 c9' TT
    rename World => wX
    have TT := Lib.hid (CX.out _ KK.out)
    refine hKC.out _ _ ?_ (fun hHeld => ?_)
    · exact TT.out
    clear hKC KC
    try simp only [Act.put, List.setIfInBounds_toArray, List.set_cons_zero, List.set_cons_succ]
    refine wpAnyH_done (by kernel_rfl) ?_ _
    have RWO := Lib.hid RW.out.lt
    have hcx := TT.out
    go_upto_region 3 with fail
    refine (rowsS_any RD.out (Nat.le_trans (dTxt_lt D2.out) (Nat.le_trans (dTxt_lt D1.out) hL))).mono ?_
    rintro e1 wY ⟨kX, hor⟩
    have C0 := Lib.hid ((kX.cell (p := ⟨lb, 0, none⟩) RW.out.lt LBN.out).trans C0.out)
    have C1 := Lib.hid ((kX.cell (p := ⟨lb, 1, none⟩) RW.out.lt LBN.out).trans C1.out)
    have C2 := Lib.hid ((kX.cell (p := ⟨lb, 2, none⟩) RW.out.lt LBN.out).trans C2.out)
    have C3 := Lib.hid ((kX.cell (p := ⟨lb, 3, none⟩) RW.out.lt LBN.out).trans C3.out)
    have C4 := Lib.hid ((kX.cell (p := ⟨lb, 4, none⟩) RW.out.lt LBN.out).trans C4.out)
    have KK := Lib.hid (KK.out.trans kX (fun _ _ e => .inl e))
    have RW := Lib.hid (RW.out.kept kX LBN.out)
    have BB := Lib.hid (And.intro (BB.out.1.kept kX (fun b o e e' => by cases e; exact BB.out.2.2 e')) BB.out.2)
    have ZX := Lib.hid RW.out.lt
    have hzX := RWO.out
    rename World => wX
    rcases hor with ⟨l3, r3, sv, hdX, rfl, hown, hblk, hrX⟩ | ⟨hdX, rfl⟩
    case' inr =>
      clear hcx
      have HDX := Lib.hid hdX
      clear hdX
      simp only [lackE]
      go_wp2_with fail
      refine ⟨rfl, (LB0.out.2.1.mono (S' := fun b => b = rb) fun _ _ e => e.elim).trans KK.out (fun b hb e => e.elim id (fun e => absurd hb (Nat.not_lt.2 (by rw [e, LB0.out.1]; exact Nat.le_refl _)))), .inr ⟨?_, rfl⟩⟩
      have hdX := HDX.out
      exact cPair_none2 (A := cTxt) D1.out (cPair_none2 (A := cTxt) D2.out (cPair_none1 (A := cTxts) hdX))
    have D3 := Lib.hid hdX
    clear RD
    have RD := Lib.hid hrX
    have hot := strV_own (Z := fun b => lb < b) hown (fun b e => Nat.lt_of_lt_of_le hzX (hblk b e))
    obtain ⟨ma, mc, rfl, hmc, hrz⟩ := hot.form
    clear RZ
    have RZ := Lib.hid hrz
    obtain ⟨m9, hm9⟩ : ∃ m9, l3.length = m9 := ⟨_, rfl⟩
    have MM := Lib.hid (And.intro hm9 hmc)
    rw [hm9]
    have hcx := CX.out _ KK.out
    have f9 := RW.out.frozen 2
    obtain ⟨v9, c9'⟩ := RW.out.some (o := 2) (by omega)
    clear kX hdX hrX TT hown hblk hot hrz hm9 hmc hzX
    go_upto_region 3 with fail
    have kX := Kept.one_set wX ⟨lb, 2, none⟩ (.slice ma m9 mc)
    have C2 := Lib.hid (cell_set_same RW.out (o := 2) (by omega) (.slice ma m9 mc))
    have C0 := Lib.hid ((show (wX.setCell ⟨lb, 2, none⟩ (.slice ma m9 mc)).cell? ⟨lb, 0, none⟩ = wX.cell? ⟨lb, 0, none⟩ from World.cell?_setCell_other _ _ _ _ (by simp)).trans C0.out)
    have C1 := Lib.hid ((show (wX.setCell ⟨lb, 2, none⟩ (.slice ma m9 mc)).cell? ⟨lb, 1, none⟩ = wX.cell? ⟨lb, 1, none⟩ from World.cell?_setCell_other _ _ _ _ (by simp)).trans C1.out)
    have C3 := Lib.hid ((show (wX.setCell ⟨lb, 2, none⟩ (.slice ma m9 mc)).cell? ⟨lb, 3, none⟩ = wX.cell? ⟨lb, 3, none⟩ from World.cell?_setCell_other _ _ _ _ (by simp)).trans C3.out)
    have C4 := Lib.hid ((show (wX.setCell ⟨lb, 2, none⟩ (.slice ma m9 mc)).cell? ⟨lb, 4, none⟩ = wX.cell? ⟨lb, 4, none⟩ from World.cell?_setCell_other _ _ _ _ (by simp)).trans C4.out)
    have KK := Lib.hid (KK.out.trans kX (fun b hb e => .inr e))
    have RD := Lib.hid (RD.out.kept kX (fun e => LBN.out (Eq.symm e)) (fun b hb _ e => by have e : b = lb := e; have := H.out.2.le; have := LB0.out.1; omega))
    have BB := Lib.hid (And.intro (BB.out.1.kept kX (fun b o e e' => by cases e; have e' : q9 = lb := e'; have := BB.out.2.1; omega)) BB.out.2)
    have RZ := Lib.hid (RZ.out.kept kX (fun b _ hz e => by have e : b = lb := e; have hz : lb < b := hz; omega))
    have RW := Lib.hid (RW.out.setCell ⟨lb, 2, none⟩ (.slice ma m9 mc))
    obtain ⟨wY, hwY⟩ : ∃ wY, wX.setCell ⟨lb, 2, none⟩ (.slice ma m9 mc) = wY := ⟨_, rfl⟩
    rw [hwY] at C0 C1 C2 C3 C4 KK RD BB RZ RW ⊢
    clear hwY kX f9 v9 c9' hcx
    rename World => wX
    have TT := Lib.hid (CX.out _ KK.out)
    have kX := (Kept.refl (fun _ => False) wX).drew
    have C0 := Lib.hid ((kX.cell (p := ⟨lb, 0, none⟩) RW.out.lt (fun e => e)).trans C0.out)
    have C1 := Lib.hid ((kX.cell (p := ⟨lb, 1, none⟩) RW.out.lt (fun e => e)).trans C1.out)
    have C2 := Lib.hid ((kX.cell (p := ⟨lb, 2, none⟩) RW.out.lt (fun e => e)).trans C2.out)
    have C3 := Lib.hid ((kX.cell (p := ⟨lb, 3, none⟩) RW.out.lt (fun e => e)).trans C3.out)
    have C4 := Lib.hid ((kX.cell (p := ⟨lb, 4, none⟩) RW.out.lt (fun e => e)).trans C4.out)
    have KK := Lib.hid (KK.out.trans kX (fun _ _ e => e.elim))
    have RW := Lib.hid (RW.out.kept kX (fun e => e))
    have RD := Lib.hid (RD.out.keep kX)
    have RZ := Lib.hid (RZ.out.keep kX)
    have BB := Lib.hid (And.intro (BB.out.1.kept kX (fun _ _ _ e => e)) BB.out.2)
    clear kX TT
    have TT := Lib.hid (CX.out _ KK.out)
    refine wp_region_heldQ (S := fun w' => w'.cell? ⟨xb, 0, none⟩ = some (.pointer (some ⟨rb, 0, none⟩))) (by kernel_rfl) ?_ (fun hHeld => ?_)
    · exact TT.out
    refine held_take 0 (oi := _) (v := ?_) rfl (by kernel_rfl) (by kernel_rfl) (by kernel_rfl) (fun _ _ _ h => h) (by rfl) (fun w hSw => ?_) (by assumption) ?_
    rotate_left
    · (try dsimp only at hSw); go_simp; try with_reducible rfl
    try simp only [Act.put, List.setIfInBounds_toArray, List.set_cons_zero, List.set_cons_succ]
    refine held_take 2 (oi := _) (v := ?_) rfl (by kernel_rfl) (by kernel_rfl) (by kernel_rfl) (fun _ _ _ h => h) (by rfl) (fun w hSw => ?_) (by assumption) ?_
    rotate_left
    · (try dsimp only at hSw); go_simp; try with_reducible rfl
    try simp only [Act.put, List.setIfInBounds_toArray, List.set_cons_zero, List.set_cons_succ]
    refine wpAnyH_ready (rs := [1]) (by kernel_rfl) (by simp) ?_
    refine held_cons 1 (o := _) rfl (fun KC hKC => ?_) AllReadyH.nil
    go_simp
    with_reducible refine Calls.mono (rnum_any RD.out (Nat.le_trans (cTxts_lt D3.out) (Nat.le_trans (dTxt_lt D2.out) (Nat.le_trans (dTxt_lt D1.out) hL)))) ?_
    rintro e1 wY ⟨kX, hor⟩
    have C0 := Lib.hid ((kX.cell (p := ⟨lb, 0, none⟩) RW.out.lt LBN.out).trans C0.out)
    have C1 := Lib.hid ((kX.cell (p := ⟨lb, 1, none⟩) RW.out.lt LBN.out).trans C1.out)
    have C2 := Lib.hid ((kX.cell (p := ⟨lb, 2, none⟩) RW.out.lt LBN.out).trans C2.out)
    have C3 := Lib.hid ((kX.cell (p := ⟨lb, 3, none⟩) RW.out.lt LBN.out).trans C3.out)
    have C4 := Lib.hid ((kX.cell (p := ⟨lb, 4, none⟩) RW.out.lt LBN.out).trans C4.out)
    have KK := Lib.hid (KK.out.trans kX (fun _ _ e => .inl e))
    have RW := Lib.hid (RW.out.kept kX LBN.out)
    have BB := Lib.hid (And.intro (BB.out.1.kept kX (fun b o e e' => by cases e; exact BB.out.2.2 e')) BB.out.2)
    have RZ := Lib.hid (RZ.out.kept kX (fun b _ hz e => by have e : b = rb := e; have := LB0.out.2.2.1; have hz : lb < b := hz; omega))
    rename World => wX
    rcases hor with ⟨n4, r4, hdX, rfl, hrX⟩ | ⟨hdX, rfl⟩
    case' inr =>
      simp only [lackE]
      try dsimp only
      refine ⟨rfl, (LB0.out.2.1.mono (S' := fun b => b = rb) fun _ _ e => e.elim).trans KK.out (fun b hb e => e.elim id (fun e => absurd hb (Nat.not_lt.2 (by rw [e, LB0.out.1]; exact Nat.le_refl _)))), .inr ⟨?_, rfl⟩⟩
      exact cPair_none2 (A := cTxt) D1.out (cPair_none2 (A := cTxt) D2.out (cPair_none2 (A := cTxts) D3.out (cPair_none1 (A := cNum) hdX)))
    have D4 := Lib.hid hdX
    clear RD
    have RD := Lib.hid hrX
    clear kX hdX hrX TT
    have TT := Lib.hid (CX.out _ KK.out)
    try dsimp only
    refine hKC.out _ _ ?_ (fun hHeld => ?_)
    · exact TT.out
    clear hKC KC
    try simp only [Act.put, List.setIfInBounds_toArray, List.set_cons_zero, List.set_cons_succ]
    refine held_take 4 (oi := _) (v := ?_) rfl (by kernel_rfl) (by kernel_rfl) (by kernel_rfl) (fun _ _ _ h => h) (by rfl) (fun w hSw => ?_) (by assumption) ?_
    rotate_left
    · (try dsimp only at hSw); go_simp; try with_reducible rfl
    try simp only [Act.put, List.setIfInBounds_toArray, List.set_cons_zero, List.set_cons_succ]
    refine wpAnyH_ready (rs := [3]) (by kernel_rfl) (by simp) ?_
    refine held_cons 3 (o := _) rfl (fun KC hKC => ?_) AllReadyH.nil
    go_simp
    with_reducible refine Calls.mono (rnum_any RD.out (Nat.le_trans (dNum_lt D4.out).2 (Nat.le_trans (cTxts_lt D3.out) (Nat.le_trans (dTxt_lt D2.out) (Nat.le_trans (dTxt_lt D1.out) hL))))) ?_
    rintro e1 wY ⟨kX, hor⟩
    have C0 := Lib.hid ((kX.cell (p := ⟨lb, 0, none⟩) RW.out.lt LBN.out).trans C0.out)
    have C1 := Lib.hid ((kX.cell (p := ⟨lb, 1, none⟩) RW.out.lt LBN.out).trans C1.out)
    have C2 := Lib.hid ((kX.cell (p := ⟨lb, 2, none⟩) RW.out.lt LBN.out).trans C2.out)
    have C3 := Lib.hid ((kX.cell (p := ⟨lb, 3, none⟩) RW.out.lt LBN.out).trans C3.out)
    have C4 := Lib.hid ((kX.cell (p := ⟨lb, 4, none⟩) RW.out.lt LBN.out).trans C4.out)
    have KK := Lib.hid (KK.out.trans kX (fun _ _ e => .inl e))
    have RW := Lib.hid (RW.out.kept kX LBN.out)
    have BB := Lib.hid (And.intro (BB.out.1.kept kX (fun b o e e' => by cases e; exact BB.out.2.2 e')) BB.out.2)
    have RZ := Lib.hid (RZ.out.kept kX (fun b _ hz e => by have e : b = rb := e; have := LB0.out.2.2.1; have hz : lb < b := hz; omega))
    rename World => wX
    rcases hor with ⟨n5, r5, hdX, rfl, hrX⟩ | ⟨hdX, rfl⟩
    case' inr =>
      simp only [lackE]
      try dsimp only
      refine ⟨rfl, (LB0.out.2.1.mono (S' := fun b => b = rb) fun _ _ e => e.elim).trans KK.out (fun b hb e => e.elim id (fun e => absurd hb (Nat.not_lt.2 (by rw [e, LB0.out.1]; exact Nat.le_refl _)))), .inr ⟨?_, rfl⟩⟩
      exact cPair_none2 (A := cTxt) D1.out (cPair_none2 (A := cTxt) D2.out (cPair_none2 (A := cTxts) D3.out (cPair_none2 (A := cNum) D4.out (hdX))))
    have D5 := Lib.hid hdX
    clear RD
    have RD := Lib.hid hrX
    clear kX hdX hrX TT
    have TT := Lib.hid (CX.out _ KK.out)
    try dsimp only
    refine hKC.out _ _ ?_ (fun hHeld => ?_)
    · exact TT.out
    clear hKC KC
    try simp only [Act.put, List.setIfInBounds_toArray, List.set_cons_zero, List.set_cons_succ]
    refine wpAnyH_ready (rs := [5]) (by kernel_rfl) (by simp) ?_
    refine held_cons 5 (o := _) rfl (fun KC hKC => ?_) AllReadyH.nil
    have f9 := RW.out.frozen 3
    obtain ⟨v9, c9'⟩ := RW.out.some (o := 3) (by omega)
    go_simp
    have kX := Kept.one_set wX ⟨lb, 3, none⟩ (.int .i64 (n4 : Int))
    have C3 := Lib.hid (cell_set_same RW.out (o := 3) (by omega) (.int .i64 (n4 : Int)))
    have C0 := Lib.hid ((show (wX.setCell ⟨lb, 3, none⟩ (.int .i64 (n4 : Int))).cell? ⟨lb, 0, none⟩ = wX.cell? ⟨lb, 0, none⟩ from World.cell?_setCell_other _ _ _ _ (by simp)).trans C0.out)
    have C1 := Lib.hid ((show (wX.setCell ⟨lb, 3, none⟩ (.int .i64 (n4 : Int))).cell? ⟨lb, 1, none⟩ = wX.cell? ⟨lb, 1, none⟩ from World.cell?_setCell_other _ _ _ _ (by simp)).trans C1.out)
    have C2 := Lib.hid ((show (wX.setCell ⟨lb, 3, none⟩ (.int .i64 (n4 : Int))).cell? ⟨lb, 2, none⟩ = wX.cell? ⟨lb, 2, none⟩ from World.cell?_setCell_other _ _ _ _ (by simp)).trans C2.out)
    have C4 := Lib.hid ((show (wX.setCell ⟨lb, 3, none⟩ (.int .i64 (n4 : Int))).cell? ⟨lb, 4, none⟩ = wX.cell? ⟨lb, 4, none⟩ from World.cell?_setCell_other _ _ _ _ (by simp)).trans C4.out)
    have KK := Lib.hid (KK.out.trans kX (fun b hb e => .inr e))
    have RD := Lib.hid (RD.out.kept kX (fun e => LBN.out (Eq.symm e)) (fun b hb _ e => by have e : b = lb := e; have := H.out.2.le; have := LB0.out.1; omega))
    have BB := Lib.hid (And.intro (BB.out.1.kept kX (fun b o e e' => by cases e; have e' : q9 = lb := e'; have := BB.out.2.1; omega)) BB.out.2)
    have RZ := Lib.hid (RZ.out.kept kX (fun b _ hz e => by have e : b = lb := e; have hz : lb < b := hz; omega))
    have RW := Lib.hid (RW.out.setCell ⟨lb, 3, none⟩ (.int .i64 (n4 : Int)))
    obtain ⟨wY, hwY⟩ : ∃ wY, wX.setCell ⟨lb, 3, none⟩ (.int .i64 (n4 : Int)) = wY := ⟨_, rfl⟩
    rw [hwY] at C0 C1 C2 C3 C4 KK RD BB RZ RW ⊢
    clear hwY kX f9 v9 c9' TT
    rename World => wX
    have TT := Lib.hid (CX.out _ KK.out)
    refine hKC.out _ _ ?_ (fun hHeld => ?_)
    · exact TT.out
    clear hKC KC
    try simp only [Act.put, List.setIfInBounds_toArray, List.set_cons_zero, List.set_cons_succ]
    refine held_take 6 (oi := _) (v := ?_) rfl (by kernel_rfl) (by kernel_rfl) (by kernel_rfl) (fun _ _ _ h => h) (by rfl) (fun w hSw => ?_) (by assumption) ?_
    rotate_left
    · (try dsimp only at hSw); go_simp; try with_reducible rfl
    try simp only [Act.put, List.setIfInBounds_toArray, List.set_cons_zero, List.set_cons_succ]
    refine wpAnyH_ready (rs := [7]) (by kernel_rfl) (by simp) ?_
    refine held_cons 7 (o := _) rfl (fun KC hKC => ?_) AllReadyH.nil
    have f9 := RW.out.frozen 4
    obtain ⟨v9, c9'⟩ := RW.out.some (o := 4) (by omega)
    go_simp
    have kX := Kept.one_set wX ⟨lb, 4, none⟩ (.int .i64 (n5 : Int))
    have C4 := Lib.hid (cell_set_same RW.out (o := 4) (by omega) (.int .i64 (n5 : Int)))
    have C0 := Lib.hid ((show (wX.setCell ⟨lb, 4, none⟩ (.int .i64 (n5 : Int))).cell? ⟨lb, 0, none⟩ = wX.cell? ⟨lb, 0, none⟩ from World.cell?_setCell_other _ _ _ _ (by simp)).trans C0.out)
    have C1 := Lib.hid ((show (wX.setCell ⟨lb, 4, none⟩ (.int .i64 (n5 : Int))).cell? ⟨lb, 1, none⟩ = wX.cell? ⟨lb, 1, none⟩ from World.cell?_setCell_other _ _ _ _ (by simp)).trans C1.out)
    have C2 := Lib.hid ((show (wX.setCell ⟨lb, 4, none⟩ (.int .i64 (n5 : Int))).cell? ⟨lb, 2, none⟩ = wX.cell? ⟨lb, 2, none⟩ from World.cell?_setCell_other _ _ _ _ (by simp)).trans C2.out)
    have C3 := Lib.hid ((show (wX.setCell ⟨lb, 4, none⟩ (.int .i64 (n5 : Int))).cell? ⟨lb, 3, none⟩ = wX.cell? ⟨lb, 3, none⟩ from World.cell?_setCell_other _ _ _ _ (by simp)).trans C3.out)
    have KK := Lib.hid (KK.out.trans kX (fun b hb e => .inr e))
    have RD := Lib.hid (RD.out.kept kX (fun e => LBN.out (Eq.symm e)) (fun b hb _ e => by have e : b = lb := e; have := H.out.2.le; have := LB0.out.1; omega))
    have BB := Lib.hid (And.intro (BB.out.1.kept kX (fun b o e e' => by cases e; have e' : q9 = lb := e'; have := BB.out.2.1; omega)) BB.out.2)
    have RZ := Lib.hid (RZ.out.kept kX (fun b _ hz e => by have e : b = lb := e; have hz : lb < b := hz; omega))
    have RW := Lib.hid (RW.out.setCell ⟨lb, 4, none⟩ (.int .i64 (n5 : Int)))
    obtain ⟨wY, hwY⟩ : ∃ wY, wX.setCell ⟨lb, 4, none⟩ (.int .i64 (n5 : Int)) = wY := ⟨_, rfl⟩
    rw [hwY] at C0 C1 C2 C3 C4 KK RD BB RZ RW ⊢
    clear hwY kX f9 v9 c9' TT
    rename World => wX
    have TT := Lib.hid (CX.out _ KK.out)
    refine hKC.out _ _ ?_ (fun hHeld => ?_)
    · exact TT.out
    clear hKC KC
    try simp only [Act.put, List.setIfInBounds_toArray, List.set_cons_zero, List.set_cons_succ]
    refine wpAnyH_done (by kernel_rfl) ?_ _
    have f0 := RW.out.frozen 0
    have f1 := RW.out.frozen 1
    have f2 := RW.out.frozen 2
    have f3 := RW.out.frozen 3
    have f4 := RW.out.frozen 4
    have c0 := C0.out
    have c1 := C1.out
    have c2 := C2.out
    have c3 := C3.out
    have c4 := C4.out
    go_wp2_with fail
    obtain ⟨t9, h9⟩ := row_set5 (v0 := .string s1) (v1 := .slice (some ⟨q9, 0, none⟩) n9 c9) (v2 := .slice ma m9 mc) (v3 := .int .i64 (n4 : Int)) (v4 := .int .i64 (n5 : Int)) RW.out
    refine bodyPost_ret (results_cell_row (ty := 99) (p := 1) rfl _ _ lb t9 #[.string s1, .slice (some ⟨q9, 0, none⟩) n9 c9, .slice ma m9 mc, .int .i64 (n4 : Int), .int .i64 (n5 : Int)] (0, 0) _ rfl h9 Tryz.underlying99 rfl (by kernel_rfl)) rfl ?_
    have hlw := LB0.out.1
    have hle := H.out.2.le
    have hrl := LB0.out.2.2.1
    have ks : Kept (fun b => b = lb) wX _ := ((((Kept.one_set wX ⟨lb, 0, none⟩ (.string s1)).trans (Kept.one_set _ ⟨lb, 1, none⟩ (.slice (some ⟨q9, 0, none⟩) n9 c9)) (fun _ _ e => e)).trans (Kept.one_set _ ⟨lb, 2, none⟩ (.slice ma m9 mc)) (fun _ _ e => e)).trans (Kept.one_set _ ⟨lb, 3, none⟩ (.int .i64 (n4 : Int))) (fun _ _ e => e)).trans (Kept.one_set _ ⟨lb, 4, none⟩ (.int .i64 (n5 : Int))) (fun _ _ e => e)
    obtain ⟨hn9, hc9, hq9⟩ := CC.out
    subst hn9
    obtain ⟨hm9, hmc⟩ := MM.out
    subst hm9
    refine ⟨?_, .inl ⟨(s1, s2, l3, n4, n5), r5, some ⟨q9, 0, none⟩, c9, ma, mc, ?_, rfl, hc9, hmc, ⟨BB.out.1.kept ks (fun b o e e' => by cases e; have e' : q9 = lb := e'; have := BB.out.2.1; omega), fun b o _ e => ?_⟩, (RZ.out.kept ks (fun b _ hz e => by have e : b = lb := e; have hz : lb < b := hz; omega)).mono (fun b _ hz => by have hz : lb < b := hz; show w.heap.size ≤ b; omega), RD.out.kept ks (fun e => LBN.out (Eq.symm e)) (fun b hb _ e => by have e : b = lb := e; omega)⟩⟩
    · exact (LB0.out.2.1.mono (S' := fun b => b = rb) fun _ _ e => e.elim).trans (KK.out.trans ks (fun _ _ e => .inr e)) (fun b hb e => e.elim id (fun e => absurd hb (Nat.not_lt.2 (by rw [e, LB0.out.1]; exact Nat.le_refl _))))
    · exact cPair_some (A := cTxt) D1.out (cPair_some (A := cTxt) D2.out (cPair_some (A := cTxts) D3.out (cPair_some (A := cNum) D4.out D5.out)))
    · cases e
      have := BB.out.2.1
      show w.heap.size ≤ q9
      omega
  ·
    have f9 := RW.out.frozen 0
    obtain ⟨v9, c9'⟩ := RW.out.some (o := 0) (by omega)
    go_simp
    have kX := Kept.one_set wX ⟨lb, 0, none⟩ (.string s1)
    have C0 := Lib.hid (cell_set_same RW.out (o := 0) (by omega) (.string s1))
    have C1 := Lib.hid ((show (wX.setCell ⟨lb, 0, none⟩ (.string s1)).cell? ⟨lb, 1, none⟩ = wX.cell? ⟨lb, 1, none⟩ from World.cell?_setCell_other _ _ _ _ (by simp)).trans C1.out)
    have C2 := Lib.hid ((show (wX.setCell ⟨lb, 0, none⟩ (.string s1)).cell? ⟨lb, 2, none⟩ = wX.cell? ⟨lb, 2, none⟩ from World.cell?_setCell_other _ _ _ _ (by simp)).trans C2.out)
    have C3 := Lib.hid ((show (wX.setCell ⟨lb, 0, none⟩ (.string s1)).cell? ⟨lb, 3, none⟩ = wX.cell? ⟨lb, 3, none⟩ from World.cell?_setCell_other _ _ _ _ (by simp)).trans C3.out)
    have C4 := Lib.hid ((show (wX.setCell ⟨lb, 0, none⟩ (.string s1)).cell? ⟨lb, 4, none⟩ = wX.cell? ⟨lb, 4, none⟩ from World.cell?_setCell_other _ _ _ _ (by simp)).trans C4.out)
    have KK := Lib.hid (KK.out.trans kX (fun b hb e => .inr e))
    have RD := Lib.hid (RD.out.kept kX (fun e => LBN.out (Eq.symm e)) (fun b hb _ e => by have e : b = lb := e; have := H.out.2.le; have := LB0.out.1; omega))
    have BB := Lib.hid (And.intro (BB.out.1.kept kX (fun b o e e' => by cases e; have e' : q9 = lb := e'; have := BB.out.2.1; omega)) BB.out.2)
    have RZ := Lib.hid (RZ.out.kept kX (fun b _ hz e => by have e : b = lb := e; have hz : lb < b := hz; omega))
    have RW := Lib.hid (RW.out.setCell ⟨lb, 0, none⟩ (.string s1))
    obtain ⟨wY, hwY⟩ : ∃ wY, wX.setCell ⟨lb, 0, none⟩ (.string s1) = wY := ⟨_, rfl⟩
    rw [hwY] at C0 C1 C2 C3 C4 KK RD BB RZ RW ⊢
    clear hwY kX f9 v9 c9' TT
    rename World => wX
    have TT := Lib.hid (CX.out _ KK.out)
    refine hKC.out _ _ ?_ (fun hHeld => ?_)
    · exact TT.out
    clear hKC KC
    try simp only [Act.put, List.setIfInBounds_toArray, List.set_cons_zero, List.set_cons_succ]
    refine wpAnyH_ready (rs := [4]) (by kernel_rfl) (by simp) ?_
    refine held_cons 4 (o := _) rfl (fun KC hKC => ?_) AllReadyH.nil
    obtain ⟨c9, w9, hcv, kX, bq, z9, hc9⟩ := bytes_made9 wX s2
    obtain ⟨q9, hq9⟩ : ∃ q9, wX.heap.size = q9 := ⟨_, rfl⟩
    obtain ⟨n9, hn9⟩ : ∃ n9, s2.size = n9 := ⟨_, rfl⟩
    rw [hq9, hn9] at hcv bq
    have hql : lb < q9 := by have := RW.out.lt; omega
    have hqr : q9 ≠ rb := by have := RD.out.row.lt; omega
    have C0 := Lib.hid ((kX.cell (p := ⟨lb, 0, none⟩) RW.out.lt (fun e => e)).trans C0.out)
    have C1 := Lib.hid ((kX.cell (p := ⟨lb, 1, none⟩) RW.out.lt (fun e => e)).trans C1.out)
    have C2 := Lib.hid ((kX.cell (p := ⟨lb, 2, none⟩) RW.out.lt (fun e => e)).trans C2.out)
    have C3 := Lib.hid ((kX.cell (p := ⟨lb, 3, none⟩) RW.out.lt (fun e => e)).trans C3.out)
    have C4 := Lib.hid ((kX.cell (p := ⟨lb, 4, none⟩) RW.out.lt (fun e => e)).trans C4.out)
    have KK := Lib.hid (KK.out.trans kX (fun _ _ e => e.elim))
    have RW := Lib.hid (RW.out.kept kX (fun e => e))
    have RD := Lib.hid (RD.out.keep kX)
    have RZ := Lib.hid (RZ.out.keep kX)
    clear BB
    have BB := Lib.hid (And.intro bq (And.intro hql hqr))
    have CC := Lib.hid (And.intro hn9 (And.intro hc9 hq9))
    rw [if_pos (by rfl)]
    go_simp
    try (rw [hcv]; go_simp)
    clear hcv kX bq z9 hc9 hq9 hn9 TT hql hqr
    rename World => wX
    have TT := Lib.hid (CX.out _ KK.out)
    refine hKC.out _ _ ?_ (fun hHeld => ?_)
    · exact TT.out
    clear hKC KC
    try simp only [Act.put, List.setIfInBounds_toArray, List.set_cons_zero, List.set_cons_succ]
    refine held_take 7 (oi := _) (v := ?_) rfl (by kernel_rfl) (by kernel_rfl) (by kernel_rfl) (fun _ _ _ h => h) (by rfl) (fun w hSw => ?_) (by assumption) ?_
    rotate_left
    · (try dsimp only at hSw); go_simp; try with_reducible rfl
    try simp only [Act.put, List.setIfInBounds_toArray, List.set_cons_zero, List.set_cons_succ]
    refine wpAnyH_ready (rs := [8]) (by kernel_rfl) (by simp) ?_
    refine held_cons 8 (o := _) rfl (fun KC hKC => ?_) AllReadyH.nil
    have f9 := RW.out.frozen 1
    obtain ⟨v9, c9'⟩ := RW.out.some (o := 1) (by omega)
    go_simp
    have kX := Kept.one_set wX ⟨lb, 1, none⟩ (.slice (some ⟨q9, 0, none⟩) n9 c9)
    have C1 := Lib.hid (cell_set_same RW.out (o := 1) (by omega) (.slice (some ⟨q9, 0, none⟩) n9 c9))
    have C0 := Lib.hid ((show (wX.setCell ⟨lb, 1, none⟩ (.slice (some ⟨q9, 0, none⟩) n9 c9)).cell? ⟨lb, 0, none⟩ = wX.cell? ⟨lb, 0, none⟩ from World.cell?_setCell_other _ _ _ _ (by simp)).trans C0.out)
    have C2 := Lib.hid ((show (wX.setCell ⟨lb, 1, none⟩ (.slice (some ⟨q9, 0, none⟩) n9 c9)).cell? ⟨lb, 2, none⟩ = wX.cell? ⟨lb, 2, none⟩ from World.cell?_setCell_other _ _ _ _ (by simp)).trans C2.out)
    have C3 := Lib.hid ((show (wX.setCell ⟨lb, 1, none⟩ (.slice (some ⟨q9, 0, none⟩) n9 c9)).cell? ⟨lb, 3, none⟩ = wX.cell? ⟨lb, 3, none⟩ from World.cell?_setCell_other _ _ _ _ (by simp)).trans C3.out)
    have C4 := Lib.hid ((show (wX.setCell ⟨lb, 1, none⟩ (.slice (some ⟨q9, 0, none⟩) n9 c9)).cell? ⟨lb, 4, none⟩ = wX.cell? ⟨lb, 4, none⟩ from World.cell?_setCell_other _ _ _ _ (by simp)).trans C4.out)
    have KK := Lib.hid (KK.out.trans kX (fun b hb e => .inr e))
    have RD := Lib.hid (RD.out.kept kX (fun e => LBN.out (Eq.symm e)) (fun b hb _ e => by have e : b = lb := e; have := H.out.2.le; have := LB0.out.1; omega))
    have BB := Lib.hid (And.intro (BB.out.1.kept kX (fun b o e e' => by cases e; have e' : q9 = lb := e'; have := BB.out.2.1; omega)) BB.out.2)
    have RZ := Lib.hid (RZ.out.kept kX (fun b _ hz e => by have e : b = lb := e; have hz : lb < b := hz; omega))
    have RW := Lib.hid (RW.out.setCell ⟨lb, 1, none⟩ (.slice (some ⟨q9, 0, none⟩) n9 c9))
    obtain ⟨wY, hwY⟩ : ∃ wY, wX.setCell ⟨lb, 1, none⟩ (.slice (some ⟨q9, 0, none⟩) n9 c9) = wY := ⟨_, rfl⟩
    rw [hwY] at C0 C1 C2 C3 C4 KK RD BB RZ RW ⊢
    clear hwY kX f9 v9 c9' TT
    rename World => wX
    have TT := Lib.hid (CX.out _ KK.out)
    refine hKC.out _ _ ?_ (fun hHeld => ?_)
    · exact TT.out
    clear hKC KC
    try simp only [Act.put, List.setIfInBounds_toArray, List.set_cons_zero, List.set_cons_succ]
    refine wpAnyH_done (by kernel_rfl) ?_ _
    have RWO := Lib.hid RW.out.lt
    have hcx := TT.out
    go_upto_region 3 with fail
    refine (rowsS_any RD.out (Nat.le_trans (dTxt_lt D2.out) (Nat.le_trans (dTxt_lt D1.out) hL))).mono ?_
    rintro e1 wY ⟨kX, hor⟩
    have C0 := Lib.hid ((kX.cell (p := ⟨lb, 0, none⟩) RW.out.lt LBN.out).trans C0.out)
    have C1 := Lib.hid ((kX.cell (p := ⟨lb, 1, none⟩) RW.out.lt LBN.out).trans C1.out)
    have C2 := Lib.hid ((kX.cell (p := ⟨lb, 2, none⟩) RW.out.lt LBN.out).trans C2.out)
    have C3 := Lib.hid ((kX.cell (p := ⟨lb, 3, none⟩) RW.out.lt LBN.out).trans C3.out)
    have C4 := Lib.hid ((kX.cell (p := ⟨lb, 4, none⟩) RW.out.lt LBN.out).trans C4.out)
    have KK := Lib.hid (KK.out.trans kX (fun _ _ e => .inl e))
    have RW := Lib.hid (RW.out.kept kX LBN.out)
    have BB := Lib.hid (And.intro (BB.out.1.kept kX (fun b o e e' => by cases e; exact BB.out.2.2 e')) BB.out.2)
    have ZX := Lib.hid RW.out.lt
    have hzX := RWO.out
    rename World => wX
    rcases hor with ⟨l3, r3, sv, hdX, rfl, hown, hblk, hrX⟩ | ⟨hdX, rfl⟩
    case' inr =>
      clear hcx
      have HDX := Lib.hid hdX
      clear hdX
      simp only [lackE]
      go_wp2_with fail
      refine ⟨rfl, (LB0.out.2.1.mono (S' := fun b => b = rb) fun _ _ e => e.elim).trans KK.out (fun b hb e => e.elim id (fun e => absurd hb (Nat.not_lt.2 (by rw [e, LB0.out.1]; exact Nat.le_refl _)))), .inr ⟨?_, rfl⟩⟩
      have hdX := HDX.out
      exact cPair_none2 (A := cTxt) D1.out (cPair_none2 (A := cTxt) D2.out (cPair_none1 (A := cTxts) hdX))
    have D3 := Lib.hid hdX
    clear RD
    have RD := Lib.hid hrX
    have hot := strV_own (Z := fun b => lb < b) hown (fun b e => Nat.lt_of_lt_of_le hzX (hblk b e))
    obtain ⟨ma, mc, rfl, hmc, hrz⟩ := hot.form
    clear RZ
    have RZ := Lib.hid hrz
    obtain ⟨m9, hm9⟩ : ∃ m9, l3.length = m9 := ⟨_, rfl⟩
    have MM := Lib.hid (And.intro hm9 hmc)
    rw [hm9]
    have hcx := CX.out _ KK.out
    have f9 := RW.out.frozen 2
    obtain ⟨v9, c9'⟩ := RW.out.some (o := 2) (by omega)
    clear kX hdX hrX TT hown hblk hot hrz hm9 hmc hzX
    go_upto_region 3 with fail
    have kX := Kept.one_set wX ⟨lb, 2, none⟩ (.slice ma m9 mc)
    have C2 := Lib.hid (cell_set_same RW.out (o := 2) (by omega) (.slice ma m9 mc))
    have C0 := Lib.hid ((show (wX.setCell ⟨lb, 2, none⟩ (.slice ma m9 mc)).cell? ⟨lb, 0, none⟩ = wX.cell? ⟨lb, 0, none⟩ from World.cell?_setCell_other _ _ _ _ (by simp)).trans C0.out)
    have C1 := Lib.hid ((show (wX.setCell ⟨lb, 2, none⟩ (.slice ma m9 mc)).cell? ⟨lb, 1, none⟩ = wX.cell? ⟨lb, 1, none⟩ from World.cell?_setCell_other _ _ _ _ (by simp)).trans C1.out)
    have C3 := Lib.hid ((show (wX.setCell ⟨lb, 2, none⟩ (.slice ma m9 mc)).cell? ⟨lb, 3, none⟩ = wX.cell? ⟨lb, 3, none⟩ from World.cell?_setCell_other _ _ _ _ (by simp)).trans C3.out)
    have C4 := Lib.hid ((show (wX.setCell ⟨lb, 2, none⟩ (.slice ma m9 mc)).cell? ⟨lb, 4, none⟩ = wX.cell? ⟨lb, 4, none⟩ from World.cell?_setCell_other _ _ _ _ (by simp)).trans C4.out)
    have KK := Lib.hid (KK.out.trans kX (fun b hb e => .inr e))
    have RD := Lib.hid (RD.out.kept kX (fun e => LBN.out (Eq.symm e)) (fun b hb _ e => by have e : b = lb := e; have := H.out.2.le; have := LB0.out.1; omega))
    have BB := Lib.hid (And.intro (BB.out.1.kept kX (fun b o e e' => by cases e; have e' : q9 = lb := e'; have := BB.out.2.1; omega)) BB.out.2)
    have RZ := Lib.hid (RZ.out.kept kX (fun b _ hz e => by have e : b = lb := e; have hz : lb < b := hz; omega))
    have RW := Lib.hid (RW.out.setCell ⟨lb, 2, none⟩ (.slice ma m9 mc))
    obtain ⟨wY, hwY⟩ : ∃ wY, wX.setCell ⟨lb, 2, none⟩ (.slice ma m9 mc) = wY := ⟨_, rfl⟩
    rw [hwY] at C0 C1 C2 C3 C4 KK RD BB RZ RW ⊢
    clear hwY kX f9 v9 c9' hcx
    rename World => wX
    have TT := Lib.hid (CX.out _ KK.out)
    have kX := (Kept.refl (fun _ => False) wX).drew
    have C0 := Lib.hid ((kX.cell (p := ⟨lb, 0, none⟩) RW.out.lt (fun e => e)).trans C0.out)
    have C1 := Lib.hid ((kX.cell (p := ⟨lb, 1, none⟩) RW.out.lt (fun e => e)).trans C1.out)
    have C2 := Lib.hid ((kX.cell (p := ⟨lb, 2, none⟩) RW.out.lt (fun e => e)).trans C2.out)
    have C3 := Lib.hid ((kX.cell (p := ⟨lb, 3, none⟩) RW.out.lt (fun e => e)).trans C3.out)
    have C4 := Lib.hid ((kX.cell (p := ⟨lb, 4, none⟩) RW.out.lt (fun e => e)).trans C4.out)
    have KK := Lib.hid (KK.out.trans kX (fun _ _ e => e.elim))
    have RW := Lib.hid (RW.out.kept kX (fun e => e))
    have RD := Lib.hid (RD.out.keep kX)
    have RZ := Lib.hid (RZ.out.keep kX)
    have BB := Lib.hid (And.intro (BB.out.1.kept kX (fun _ _ _ e => e)) BB.out.2)
    clear kX TT
    have TT := Lib.hid (CX.out _ KK.out)
    refine wp_region_heldQ (S := fun w' => w'.cell? ⟨xb, 0, none⟩ = some (.pointer (some ⟨rb, 0, none⟩))) (by kernel_rfl) ?_ (fun hHeld => ?_)
    · exact TT.out
    refine held_take 0 (oi := _) (v := ?_) rfl (by kernel_rfl) (by kernel_rfl) (by kernel_rfl) (fun _ _ _ h => h) (by rfl) (fun w hSw => ?_) (by assumption) ?_
    rotate_left
    · (try dsimp only at hSw); go_simp; try with_reducible rfl
    try simp only [Act.put, List.setIfInBounds_toArray, List.set_cons_zero, List.set_cons_succ]
    refine held_take 2 (oi := _) (v := ?_) rfl (by kernel_rfl) (by kernel_rfl) (by kernel_rfl) (fun _ _ _ h => h) (by rfl) (fun w hSw => ?_) (by assumption) ?_
    rotate_left
    · (try dsimp only at hSw); go_simp; try with_reducible rfl
    try simp only [Act.put, List.setIfInBounds_toArray, List.set_cons_zero, List.set_cons_succ]
    refine wpAnyH_ready (rs := [1]) (by kernel_rfl) (by simp) ?_
    refine held_cons 1 (o := _) rfl (fun KC hKC => ?_) AllReadyH.nil
    go_simp
    with_reducible refine Calls.mono (rnum_any RD.out (Nat.le_trans (cTxts_lt D3.out) (Nat.le_trans (dTxt_lt D2.out) (Nat.le_trans (dTxt_lt D1.out) hL)))) ?_
    rintro e1 wY ⟨kX, hor⟩
    have C0 := Lib.hid ((kX.cell (p := ⟨lb, 0, none⟩) RW.out.lt LBN.out).trans C0.out)
    have C1 := Lib.hid ((kX.cell (p := ⟨lb, 1, none⟩) RW.out.lt LBN.out).trans C1.out)
    have C2 := Lib.hid ((kX.cell (p := ⟨lb, 2, none⟩) RW.out.lt LBN.out).trans C2.out)
    have C3 := Lib.hid ((kX.cell (p := ⟨lb, 3, none⟩) RW.out.lt LBN.out).trans C3.out)
    have C4 := Lib.hid ((kX.cell (p := ⟨lb, 4, none⟩) RW.out.lt LBN.out).trans C4.out)
    have KK := Lib.hid (KK.out.trans kX (fun _ _ e => .inl e))
    have RW := Lib.hid (RW.out.kept kX LBN.out)
    have BB := Lib.hid (And.intro (BB.out.1.kept kX (fun b o e e' => by cases e; exact BB.out.2.2 e')) BB.out.2)
    have RZ := Lib.hid (RZ.out.kept kX (fun b _ hz e => by have e : b = rb := e; have := LB0.out.2.2.1; have hz : lb < b := hz; omega))
    rename World => wX
    rcases hor with ⟨n4, r4, hdX, rfl, hrX⟩ | ⟨hdX, rfl⟩
    case' inr =>
      simp only [lackE]
      try dsimp only
      refine ⟨rfl, (LB0.out.2.1.mono (S' := fun b => b = rb) fun _ _ e => e.elim).trans KK.out (fun b hb e => e.elim id (fun e => absurd hb (Nat.not_lt.2 (by rw [e, LB0.out.1]; exact Nat.le_refl _)))), .inr ⟨?_, rfl⟩⟩
      exact cPair_none2 (A := cTxt) D1.out (cPair_none2 (A := cTxt) D2.out (cPair_none2 (A := cTxts) D3.out (cPair_none1 (A := cNum) hdX)))
    have D4 := Lib.hid hdX
    clear RD
    have RD := Lib.hid hrX
    clear kX hdX hrX TT
    have TT := Lib.hid (CX.out _ KK.out)
    try dsimp only
    refine hKC.out _ _ ?_ (fun hHeld => ?_)
    · exact TT.out
    clear hKC KC
    try simp only [Act.put, List.setIfInBounds_toArray, List.set_cons_zero, List.set_cons_succ]
    refine held_take 4 (oi := _) (v := ?_) rfl (by kernel_rfl) (by kernel_rfl) (by kernel_rfl) (fun _ _ _ h => h) (by rfl) (fun w hSw => ?_) (by assumption) ?_
    rotate_left
    · (try dsimp only at hSw); go_simp; try with_reducible rfl
    try simp only [Act.put, List.setIfInBounds_toArray, List.set_cons_zero, List.set_cons_succ]
    refine wpAnyH_ready (rs := [3]) (by kernel_rfl) (by simp) ?_
    refine held_cons 3 (o := _) rfl (fun KC hKC => ?_) AllReadyH.nil
    go_simp
    with_reducible refine Calls.mono (rnum_any RD.out (Nat.le_trans (dNum_lt D4.out).2 (Nat.le_trans (cTxts_lt D3.out) (Nat.le_trans (dTxt_lt D2.out) (Nat.le_trans (dTxt_lt D1.out) hL))))) ?_
    rintro e1 wY ⟨kX, hor⟩
    have C0 := Lib.hid ((kX.cell (p := ⟨lb, 0, none⟩) RW.out.lt LBN.out).trans C0.out)
    have C1 := Lib.hid ((kX.cell (p := ⟨lb, 1, none⟩) RW.out.lt LBN.out).trans C1.out)
    have C2 := Lib.hid ((kX.cell (p := ⟨lb, 2, none⟩) RW.out.lt LBN.out).trans C2.out)
    have C3 := Lib.hid ((kX.cell (p := ⟨lb, 3, none⟩) RW.out.lt LBN.out).trans C3.out)
    have C4 := Lib.hid ((kX.cell (p := ⟨lb, 4, none⟩) RW.out.lt LBN.out).trans C4.out)
    have KK := Lib.hid (KK.out.trans kX (fun _ _ e => .inl e))
    have RW := Lib.hid (RW.out.kept kX LBN.out)
    have BB := Lib.hid (And.intro (BB.out.1.kept kX (fun b o e e' => by cases e; exact BB.out.2.2 e')) BB.out.2)
    have RZ := Lib.hid (RZ.out.kept kX (fun b _ hz e => by have e : b = rb := e; have := LB0.out.2.2.1; have hz : lb < b := hz; omega))
    rename World => wX
    rcases hor with ⟨n5, r5, hdX, rfl, hrX⟩ | ⟨hdX, rfl⟩
    case' inr =>
      simp only [lackE]
      try dsimp only
      refine ⟨rfl, (LB0.out.2.1.mono (S' := fun b => b = rb) fun _ _ e => e.elim).trans KK.out (fun b hb e => e.elim id (fun e => absurd hb (Nat.not_lt.2 (by rw [e, LB0.out.1]; exact Nat.le_refl _)))), .inr ⟨?_, rfl⟩⟩
      exact cPair_none2 (A := cTxt) D1.out (cPair_none2 (A := cTxt) D2.out (cPair_none2 (A := cTxts) D3.out (cPair_none2 (A := cNum) D4.out (hdX))))
    have D5 := Lib.hid hdX
    clear RD
    have RD := Lib.hid hrX
    clear kX hdX hrX TT
    have TT := Lib.hid (CX.out _ KK.out)
    try dsimp only
    refine hKC.out _ _ ?_ (fun hHeld => ?_)
    · exact TT.out
    clear hKC KC
    try simp only [Act.put, List.setIfInBounds_toArray, List.set_cons_zero, List.set_cons_succ]
    refine wpAnyH_ready (rs := [5]) (by kernel_rfl) (by simp) ?_
    refine held_cons 5 (o := _) rfl (fun KC hKC => ?_) AllReadyH.nil
    have f9 := RW.out.frozen 3
    obtain ⟨v9, c9'⟩ := RW.out.some (o := 3) (by omega)
    go_simp
    have kX := Kept.one_set wX ⟨lb, 3, none⟩ (.int .i64 (n4 : Int))
    have C3 := Lib.hid (cell_set_same RW.out (o := 3) (by omega) (.int .i64 (n4 : Int)))
    have C0 := Lib.hid ((show (wX.setCell ⟨lb, 3, none⟩ (.int .i64 (n4 : Int))).cell? ⟨lb, 0, none⟩ = wX.cell? ⟨lb, 0, none⟩ from World.cell?_setCell_other _ _ _ _ (by simp)).trans C0.out)
    have C1 := Lib.hid ((show (wX.setCell ⟨lb, 3, none⟩ (.int .i64 (n4 : Int))).cell? ⟨lb, 1, none⟩ = wX.cell? ⟨lb, 1, none⟩ from World.cell?_setCell_other _ _ _ _ (by simp)).trans C1.out)
    have C2 := Lib.hid ((show (wX.setCell ⟨lb, 3, none⟩ (.int .i64 (n4 : Int))).cell? ⟨lb, 2, none⟩ = wX.cell? ⟨lb, 2, none⟩ from World.cell?_setCell_other _ _ _ _ (by simp)).trans C2.out)
    have C4 := Lib.hid ((show (wX.setCell ⟨lb, 3, none⟩ (.int .i64 (n4 : Int))).cell? ⟨lb, 4, none⟩ = wX.cell? ⟨lb, 4, none⟩ from World.cell?_setCell_other _ _ _ _ (by simp)).trans C4.out)
    have KK := Lib.hid (KK.out.trans kX (fun b hb e => .inr e))
    have RD := Lib.hid (RD.out.kept kX (fun e => LBN.out (Eq.symm e)) (fun b hb _ e => by have e : b = lb := e; have := H.out.2.le; have := LB0.out.1; omega))
    have BB := Lib.hid (And.intro (BB.out.1.kept kX (fun b o e e' => by cases e; have e' : q9 = lb := e'; have := BB.out.2.1; omega)) BB.out.2)
    have RZ := Lib.hid (RZ.out.kept kX (fun b _ hz e => by have e : b = lb := e; have hz : lb < b := hz; omega))
    have RW := Lib.hid (RW.out.setCell ⟨lb, 3, none⟩ (.int .i64 (n4 : Int)))
    obtain ⟨wY, hwY⟩ : ∃ wY, wX.setCell ⟨lb, 3, none⟩ (.int .i64 (n4 : Int)) = wY := ⟨_, rfl⟩
    rw [hwY] at C0 C1 C2 C3 C4 KK RD BB RZ RW ⊢
    clear hwY kX f9 v9 c9' TT
    rename World => wX
    have TT := Lib.hid (CX.out _ KK.out)
    refine hKC.out _ _ ?_ (fun hHeld => ?_)
    · exact TT.out
    clear hKC KC
    try simp only [Act.put, List.setIfInBounds_toArray, List.set_cons_zero, List.set_cons_succ]
    refine held_take 6 (oi := _) (v := ?_) rfl (by kernel_rfl) (by kernel_rfl) (by kernel_rfl) (fun _ _ _ h => h) (by rfl) (fun w hSw => ?_) (by assumption) ?_
    rotate_left
    · (try dsimp only at hSw); go_simp; try with_reducible rfl
    try simp only [Act.put, List.setIfInBounds_toArray, List.set_cons_zero, List.set_cons_succ]
    refine wpAnyH_ready (rs := [7]) (by kernel_rfl) (by simp) ?_
    refine held_cons 7 (o := _) rfl (fun KC hKC => ?_) AllReadyH.nil
    have f9 := RW.out.frozen 4
    obtain ⟨v9, c9'⟩ := RW.out.some (o := 4) (by omega)
    go_simp
    have kX := Kept.one_set wX ⟨lb, 4, none⟩ (.int .i64 (n5 : Int))
    have C4 := Lib.hid (cell_set_same RW.out (o := 4) (by omega) (.int .i64 (n5 : Int)))
    have C0 := Lib.hid ((show (wX.setCell ⟨lb, 4, none⟩ (.int .i64 (n5 : Int))).cell? ⟨lb, 0, none⟩ = wX.cell? ⟨lb, 0, none⟩ from World.cell?_setCell_other _ _ _ _ (by simp)).trans C0.out)
    have C1 := Lib.hid ((show (wX.setCell ⟨lb, 4, none⟩ (.int .i64 (n5 : Int))).cell? ⟨lb, 1, none⟩ = wX.cell? ⟨lb, 1, none⟩ from World.cell?_setCell_other _ _ _ _ (by simp)).trans C1.out)
    have C2 := Lib.hid ((show (wX.setCell ⟨lb, 4, none⟩ (.int .i64 (n5 : Int))).cell? ⟨lb, 2, none⟩ = wX.cell? ⟨lb, 2, none⟩ from World.cell?_setCell_other _ _ _ _ (by simp)).trans C2.out)
    have C3 := Lib.hid ((show (wX.setCell ⟨lb, 4, none⟩ (.int .i64 (n5 : Int))).cell? ⟨lb, 3, none⟩ = wX.cell? ⟨lb, 3, none⟩ from World.cell?_setCell_other _ _ _ _ (by simp)).trans C3.out)
    have KK := Lib.hid (KK.out.trans kX (fun b hb e => .inr e))
    have RD := Lib.hid (RD.out.kept kX (fun e => LBN.out (Eq.symm e)) (fun b hb _ e => by have e : b = lb := e; have := H.out.2.le; have := LB0.out.1; omega))
    have BB := Lib.hid (And.intro (BB.out.1.kept kX (fun b o e e' => by cases e; have e' : q9 = lb := e'; have := BB.out.2.1; omega)) BB.out.2)
    have RZ := Lib.hid (RZ.out.kept kX (fun b _ hz e => by have e : b = lb := e; have hz : lb < b := hz; omega))
    have RW := Lib.hid (RW.out.setCell ⟨lb, 4, none⟩ (.int .i64 (n5 : Int)))
    obtain ⟨wY, hwY⟩ : ∃ wY, wX.setCell ⟨lb, 4, none⟩ (.int .i64 (n5 : Int)) = wY := ⟨_, rfl⟩
    rw [hwY] at C0 C1 C2 C3 C4 KK RD BB RZ RW ⊢
    clear hwY kX f9 v9 c9' TT
    rename World => wX
    have TT := Lib.hid (CX.out _ KK.out)
    refine hKC.out _ _ ?_ (fun hHeld => ?_)
    · exact TT.out
    clear hKC KC
    try simp only [Act.put, List.setIfInBounds_toArray, List.set_cons_zero, List.set_cons_succ]
    refine wpAnyH_done (by kernel_rfl) ?_ _
    have f0 := RW.out.frozen 0
    have f1 := RW.out.frozen 1
    have f2 := RW.out.frozen 2
    have f3 := RW.out.frozen 3
    have f4 := RW.out.frozen 4
    have c0 := C0.out
    have c1 := C1.out
    have c2 := C2.out
    have c3 := C3.out
    have c4 := C4.out
    go_wp2_with fail
    obtain ⟨t9, h9⟩ := row_set5 (v0 := .string s1) (v1 := .slice (some ⟨q9, 0, none⟩) n9 c9) (v2 := .slice ma m9 mc) (v3 := .int .i64 (n4 : Int)) (v4 := .int .i64 (n5 : Int)) RW.out
    refine bodyPost_ret (results_cell_row (ty := 99) (p := 1) rfl _ _ lb t9 #[.string s1, .slice (some ⟨q9, 0, none⟩) n9 c9, .slice ma m9 mc, .int .i64 (n4 : Int), .int .i64 (n5 : Int)] (0, 0) _ rfl h9 Tryz.underlying99 rfl (by kernel_rfl)) rfl ?_
    have hlw := LB0.out.1
    have hle := H.out.2.le
    have hrl := LB0.out.2.2.1
    have ks : Kept (fun b => b = lb) wX _ := ((((Kept.one_set wX ⟨lb, 0, none⟩ (.string s1)).trans (Kept.one_set _ ⟨lb, 1, none⟩ (.slice (some ⟨q9, 0, none⟩) n9 c9)) (fun _ _ e => e)).trans (Kept.one_set _ ⟨lb, 2, none⟩ (.slice ma m9 mc)) (fun _ _ e => e)).trans (Kept.one_set _ ⟨lb, 3, none⟩ (.int .i64 (n4 : Int))) (fun _ _ e => e)).trans (Kept.one_set _ ⟨lb, 4, none⟩ (.int .i64 (n5 : Int))) (fun _ _ e => e)
    obtain ⟨hn9, hc9, hq9⟩ := CC.out
    subst hn9
    obtain ⟨hm9, hmc⟩ := MM.out
    subst hm9
    refine ⟨?_, .inl ⟨(s1, s2, l3, n4, n5), r5, some ⟨q9, 0, none⟩, c9, ma, mc, ?_, rfl, hc9, hmc, ⟨BB.out.1.kept ks (fun b o e e' => by cases e; have e' : q9 = lb := e'; have := BB.out.2.1; omega), fun b o _ e => ?_⟩, (RZ.out.kept ks (fun b _ hz e => by have e : b = lb := e; have hz : lb < b := hz; omega)).mono (fun b _ hz => by have hz : lb < b := hz; show w.heap.size ≤ b; omega), RD.out.kept ks (fun e => LBN.out (Eq.symm e)) (fun b hb _ e => by have e : b = lb := e; omega)⟩⟩
    · exact (LB0.out.2.1.mono (S' := fun b => b = rb) fun _ _ e => e.elim).trans (KK.out.trans ks (fun _ _ e => .inr e)) (fun b hb e => e.elim id (fun e => absurd hb (Nat.not_lt.2 (by rw [e, LB0.out.1]; exact Nat.le_refl _))))
    · exact cPair_some (A := cTxt) D1.out (cPair_some (A := cTxt) D2.out (cPair_some (A := cTxts) D3.out (cPair_some (A := cNum) D4.out D5.out)))
    · cases e
      have := BB.out.2.1
      show w.heap.size ≤ q9
      omega
end Go.Proofs.YtdkcnigghcbnpaaGreat

/- image's reader: rows of programs. -/
namespace Go.Proofs.YtdkcnigghcbnpaaGreat
set_option linter.unusedVariables false
set_option linter.unusedSimpArgs false
open Go.RowKit Go.MapKept

theorem progE : Elem Tryz.prog 71 99 (.agg #[.string ⟨#[]⟩, .slice none 0 0, .slice none 0 0, .int .i64 0, .int .i64 0]) 5 80 := ⟨Tryz.underlying71, by kernel_rfl, rfl, by omega⟩
theorem cP_lt {L r : List UInt8} {x : IP} (h : cP.dec L = some (x, r)) : r.length ≤ L.length := by
  obtain ⟨-, h2⟩ := cP.bwd _ _ _ h
  rw [h2, List.length_append]
  omega
set_option maxRecDepth 100000 in
set_option maxHeartbeats 4000000 in
theorem rowsP_any {w : World} {xb rb Bd : Nat} {L : List UInt8} (hx : Box w xb (.pointer (some ⟨rb, 0, none⟩))) (hne : xb ≠ rb) (h : RdAt w rb Bd L) (hL : L.length ≤ 1000000) :
    Calls Tryz.prog 94 #[.pointer (some ⟨rb, 0, none⟩), .func (.func 95) #[] #[.pointer (some ⟨xb, 0, none⟩)]] w fun e w' => Kept (fun b => b = rb) w w' ∧ ((∃ l r sv, (cRows cP 64 (by decide)).dec L = some (l, r) ∧ e = .returned sv ∧ OwnT tProg 99 w' (fun b => w.heap.size ≤ b) sv (l.map intP) ∧ RdAt w' rb Bd r) ∨ ((cRows cP 64 (by decide)).dec L = none ∧ e = lackE)) := by
  have N := Lib.hid (rnum_any h hL)
  have HR := Lib.hid (And.intro h.row.lt h.le)
  have HX := Lib.hid (And.intro hx hx.lt)
  clear h hx
  go_enter Tryz.func94, Tryz.ntmps94
  go_wp2_with fail
  refine N.out.mono ?_
  rintro e w1 ⟨k1, ⟨n, r0, hd, rfl, hrd⟩ | ⟨hd, rfl⟩⟩
  · obtain ⟨hn, hr0⟩ := dNum_lt hd
    have K1 := Lib.hid (And.intro k1 (And.intro hd hrd))
    clear k1 hd hrd N
    by_cases hn64 : n ≤ 64
    · have h64 : ¬ (64 : Int) < (n : Int) := by omega
      have hdec : (cRows cP 64 (by decide)).dec L = repD cP n r0 := by
        show (match dNum L with | some (n, r) => if 64 < n then none else repD cP n r | none => none) = _
        rw [K1.out.2.1]
        simp only
        rw [if_neg (by omega)]
      have HD := Lib.hid hdec
      clear hdec
      go_wp2_with fail
      go_loopw [4, 13] (fun s4 s13 wr => ∃ (i : Nat) (l : List IP) (r : List UInt8) (c4 : Nat) (a4 : Option Addr), i ≤ n ∧ s13 = .int .i64 (i : Int) ∧ repD cP i r0 = some (l, r) ∧ l.length = i ∧ r.length ≤ 1000000 ∧ s4 = .slice a4 i c4 ∧ OwnT tProg 99 wr (fun b => w.heap.size ≤ b) (.slice a4 i c4) (l.map intP) ∧ RdAt wr rb Bd r ∧ Kept (fun b => b = rb) w wr) (fun _ s13 _ => n - (intOf s13).toNat)
      case atStart => exact ⟨0, [], r0, 0, none, Nat.zero_le _, rfl, rfl, rfl, by omega, rfl, OwnT.nil, K1.out.2.2, K1.out.1⟩
      case round =>
        obtain ⟨i, l, r, c4, a4, hi, rfl, hrep, hll, hrl, rfl, hown, hrd, hk⟩ := hrel
        have TX := Lib.hid (prog_any (HX.out.1.kept hk hne) hne hrd hrl)
        have R := Lib.hid (And.intro hrep (And.intro hown (And.intro hll (And.intro hrd hk))))
        clear hrep hown hrd hk
        by_cases hlt : i < n
        · have hin : (i : Int) < (n : Int) := by omega
          clear hll
          go_wp2_with fail
          refine TX.out.mono ?_
          rintro e w2 ⟨k2, ⟨⟨nm, cd, mp, cx, em⟩, r', ca, cc, ma, mc, hd, rfl, hcc, hmc, hbz, hrz, hrd⟩ | ⟨hd, rfl⟩⟩
          · obtain ⟨hrb, hBd⟩ := HR.out
            have hzw := R.out.2.2.2.2.size
            obtain ⟨css, ho, hcl, hat, hz⟩ := (R.out.2.1.kept k2 (fun b _ hb e => by have e : b = rb := e; have hb : w.heap.size ≤ b := hb; omega))
            have hlm : (l.map intP).length = i := by rw [List.length_map]; exact R.out.2.2.1
            have hx0 : tProg.at_ w2 (fun b => wr.heap.size ≤ b) (intP (nm, cd, mp, cx, em)) [.string nm, .slice ca cd.size cc, .slice ma mp.length mc, .int .i64 (cx : Int), .int .i64 (em : Int)] := ⟨ca, cc, ma, mc, rfl, hcc, hmc, hbz, hrz⟩
            have hol : ∀ b, (Value.slice a4 i c4).ownBlock = some b → b < wr.heap.size := fun b e => by
              obtain ⟨_, ho', _⟩ := R.out.2.1
              exact (ho'.lt b e).2
            have hx1 : tProg.at_ w2 (fun b => w.heap.size ≤ b ∧ (Value.slice a4 i c4).ownBlock ≠ some b) (intP (nm, cd, mp, cx, em)) [.string nm, .slice ca cd.size cc, .slice ma mp.length mc, .int .i64 (cx : Int), .int .i64 (em : Int)] := tProg.mono hx0 (fun b _ hb => ⟨by have hb : wr.heap.size ≤ b := hb; omega, fun e => by have := hol b e; have hb : wr.heap.size ≤ b := hb; omega⟩)
            rw [hlm] at ho hcl
            have kq := Kept.one_alloc w2 (.cells #[.string nm, .slice ca cd.size cc, .slice ma mp.length mc, .int .i64 (cx : Int), .int .i64 (em : Int)] 99)
            have HROW := Lib.hid (ownsRow_kept ho kq (fun _ _ e => e))
            have X := Lib.hid (And.intro k2 (And.intro hd (And.intro hrd (And.intro hcl (And.intro hat (And.intro hz (And.intro hx1 hlm)))))))
            have HLL := Lib.hid (show i + 1 ≤ 64 from by omega)
            clear ho k2 hd hrd TX hcl hat hz hx0 hx1 hol kq hlm hcc hmc hbz hrz
            go_wp2_with (at_builtin; refine wpList_append_mine rfl _ _ progE rfl rfl HROW.out (some ⟨w2.heap.size, 0, none⟩) 1 1 [.string nm, .slice ca cd.size cc, .slice ma mp.length mc, .int .i64 (cx : Int), .int .i64 (em : Int)] rfl rfl (holds_block (heap_alloc_new w2 _)) (by simp [Value.oneCell']) (Nat.le_trans HLL.out (by decide)) (Nat.le_trans (Nat.mul_le_mul_right 80 HLL.out) (by decide)) ?_; intro a3 c3 w6 own6 k6 b6; have O6 := Lib.hid (And.intro own6 (And.intro k6 b6)); clear own6 k6 b6)
            obtain ⟨k2, hd, hrd, hcl, hat, hz, hx1, hlm⟩ := X.out
            have kq := Kept.one_alloc w2 (.cells #[.string nm, .slice ca cd.size cc, .slice ma mp.length mc, .int .i64 (cx : Int), .int .i64 (em : Int)] 99)
            have hzq := kq.size
            have hz2 := k2.size
            have hsn := OwnT.snoc (T := tProg) (l := l.map intP) (x := intP (nm, cd, mp, cx, em)) (css := css) (Z := fun b => w.heap.size ≤ b) (by rw [hlm]; exact HROW.out) (by rw [hlm]; exact hcl) (fun i x cs h1 h2 => tProg.kept (hat i x cs h1 h2) kq (fun _ _ _ e => e)) hz (tProg.kept hx1 kq (fun _ _ _ e => e)) (by rw [hlm]; exact O6.out.1) O6.out.2.1 O6.out.2.2
            have hown6 : OwnT tProg 99 w6 (fun b => w.heap.size ≤ b) (.slice a3 (i + 1) c3) ((l ++ [(nm, cd, mp, cx, em)]).map intP) := by
              rw [List.map_append]
              exact hsn.mono (fun b _ hb => hb.elim id (fun e => by show w.heap.size ≤ b; omega))
            have hk6 : Kept (fun b => b = rb) w w6 := ((R.out.2.2.2.2.trans k2 (fun _ _ e => e)).trans kq (fun _ _ e => e.elim)).trans O6.out.2.1 (fun b hb e => absurd hb (Nat.not_lt.2 (hz b e)))
            have hrd6 : RdAt w6 rb Bd r' := (hrd.keep kq).kept O6.out.2.1 (fun e => by have := hz rb e; omega) (fun b hb _ e => by have := hz b e; omega)
            refine ⟨⟨i + 1, l ++ [(nm, cd, mp, cx, em)], r', c3, a3, hlt, rfl, ?_, by rw [List.length_append, R.out.2.2.1]; rfl, Nat.le_trans (cP_lt hd) hrl, rfl, hown6, hrd6, hk6⟩, by simp only [intOf]; omega⟩
            rw [repD_snoc cP i r0 l r R.out.1]
            rw [hd]
          · have X := Lib.hid (And.intro k2 hd)
            clear k2 hd
            simp only [lackE]
            go_wp2_with fail
            refine ⟨rfl, R.out.2.2.2.2.trans X.out.1 (fun _ _ e => e), .inr ⟨?_, rfl⟩⟩
            rw [HD.out]
            exact repD_stop cP R.out.1 X.out.2 n hlt
        · obtain rfl : i = n := by omega
          go_wp2_with fail
          go_ret
          exact ⟨R.out.2.2.2.2, .inl ⟨l, r, _, by rw [HD.out]; exact R.out.1, rfl, R.out.2.1, R.out.2.2.2.1⟩⟩
    · have h64 : (64 : Int) < (n : Int) := by omega
      have HN := Lib.hid hn64
      clear hn64
      go_wp2_with fail
      refine ⟨rfl, K1.out.1, .inr ⟨?_, rfl⟩⟩
      show (match dNum L with | some (n, r) => if 64 < n then none else repD cP n r | none => none) = none
      rw [K1.out.2.1]
      simp only
      rw [if_pos (by have := HN.out; omega)]
  · have K := Lib.hid (And.intro k1 hd)
    clear k1 hd
    simp only [lackE]
    go_wp2_with fail
    refine ⟨rfl, K.out.1, .inr ⟨?_, rfl⟩⟩
    show (match dNum L with | some (n, r) => if 64 < n then none else repD cP n r | none => none) = none
    rw [K.out.2]
end Go.Proofs.YtdkcnigghcbnpaaGreat

/- image's reader: all of it. -/
namespace Go.Proofs.YtdkcnigghcbnpaaGreat
set_option linter.unusedVariables false
set_option linter.unusedSimpArgs false
open Go.RowKit Go.MapKept

/-- An image at the beginning of bytes. -/
def dHead (L : List UInt8) : Option (Img × List UInt8) := match dNum L with
  | some (n, r) => if n = 721 then cI.dec r else none
  | none => none
theorem dImg_head (L : List UInt8) : dImg L = match dHead L with | some (x, []) => some x | _ => none := by
  unfold dImg dHead
  cases dNum L with
  | none => rfl
  | some p =>
    obtain ⟨n, r⟩ := p
    simp only
    split <;> rfl
theorem linkV_own {w : World} {Z : Nat → Prop} {sv : Value} {l : List IL} (h : w.ownsRow 0 103 3 sv l.length (linkV l)) (hb : ∀ b, sv.ownBlock = some b → Z b) : OwnT tLink 103 w Z sv (l.map intL) := by
  refine ⟨l.map fun x => [.string x.1, .string x.2.1, .int .i64 (x.2.2 : Int)], ?_, by simp, fun i x cs hx hc => ?_, hb⟩
  · have e : (l.map fun x : IL => ([.string x.1, .string x.2.1, .int .i64 (x.2.2 : Int)] : List Value)).flatten = linkV l := by unfold linkV; rw [List.flatMap_def]
    rw [e, List.length_map]
    exact h
  · rw [List.getElem?_map] at hx hc
    cases hl : l[i]? with
    | none => rw [hl] at hx; cases hx
    | some y =>
      rw [hl] at hx hc
      cases hx
      cases hc
      rfl
set_option maxRecDepth 100000 in
set_option maxHeartbeats 4000000 in
theorem image_any {w : World} {rb Bd : Nat} {L : List UInt8} (h : RdAt w rb Bd L) (hL : L.length ≤ 1000000) :
    Calls Tryz.prog 66 #[.pointer (some ⟨rb, 0, none⟩)] w fun e w' => Kept (fun b => b = rb) w w' ∧ ((∃ y r v, dHead L = some (y, r) ∧ e = .returned v ∧ ImgAt w' (fun b => w.heap.size ≤ b) v (intI y) ∧ RdAt w' rb Bd r) ∨ (dHead L = none ∧ e = lackE)) := by
  have H := Lib.hid h
  have hrw := h.row.lt
  have hBw := h.le
  clear h
  go_enter Tryz.func66, Tryz.ntmps66
  go_wp2_with fail
  obtain ⟨xb, hxb⟩ : ∃ xb, w.heap.size = xb := ⟨_, rfl⟩
  obtain ⟨w0, hw0⟩ : ∃ w0, (w.alloc (.cells #[.pointer (some ⟨rb, 0, none⟩)] 152)).alloc (.cells #[.slice none 0 0, .slice none 0 0, .slice none 0 0] 75) = w0 := ⟨_, rfl⟩
  have ka := Kept.one_alloc w (.cells #[.pointer (some ⟨rb, 0, none⟩)] 152)
  have k0 : Kept (fun _ => False) w w0 := by rw [← hw0]; exact ka.trans (Kept.one_alloc _ _) (fun _ _ e => e)
  have hrow0 : RowAt w0 (xb + 1) 3 := by rw [← hw0, ← hxb]; exact (by have h := RowAt.new (w.alloc (.cells #[.pointer (some ⟨rb, 0, none⟩)] 152)) #[.slice none 0 0, .slice none 0 0, .slice none 0 0] 75; rw [show (w.alloc (.cells #[.pointer (some ⟨rb, 0, none⟩)] 152)).heap.size = w.heap.size + 1 from by simp] at h; exact h)
  have hbox0 : Box w0 xb (.pointer (some ⟨rb, 0, none⟩)) := by rw [← hw0, ← hxb]; exact (Box.new w _ _).kept (Kept.one_alloc _ _) (fun e => e)
  have hsz0 : w0.heap.size = xb + 2 := by rw [← hw0, ← hxb]; simp
  rw [hw0, hxb]
  rw [hxb] at hrw hBw
  have hne : xb ≠ rb := by omega
  have hib : ¬ xb + 1 = rb := by omega
  obtain ⟨ib, hib0⟩ : ∃ ib, xb + 1 = ib := ⟨_, rfl⟩
  rw [hib0] at hrow0 hib ⊢
  have HX := Lib.hid (And.intro hxb hib0)
  have A0 := Lib.hid (And.intro k0 (And.intro hrow0 hbox0))
  have hxi : xb < ib := by omega
  have hri : rb < ib := by omega
  have hBi : Bd < ib := by omega
  clear hxb hw0 ka k0 hrow0 hbox0 hib0 hsz0
  refine (rnum_any (H.out.keep A0.out.1) hL).mono ?_
  rintro e w1 ⟨k1, ⟨n, r0, hd, rfl, hrd⟩ | ⟨hd, rfl⟩⟩
  case' inr =>
    have K := Lib.hid (And.intro k1 hd)
    clear k1 hd
    simp only [lackE]
    go_wp2_with fail
    refine ⟨rfl, (A0.out.1.mono (S' := fun b => b = rb) fun _ _ e => e.elim).trans K.out.1 (fun _ _ e => e), .inr ⟨?_, rfl⟩⟩
    unfold dHead
    rw [K.out.2]
  have kw1 : Kept (fun b => b = rb ∨ b = ib) w0 w1 := k1.mono fun _ _ e => .inl e
  have LR0 : r0.length ≤ 1000000 := Nat.le_trans (dNum_lt hd).2 hL
  by_cases hn : n = 721
  case neg =>
    have hn1 : ¬ (n : Int) = 721 := by omega
    have K := Lib.hid (And.intro k1 (And.intro hd hn))
    clear k1 hd hrd kw1 hn
    go_wp2_with fail
    refine ⟨rfl, (A0.out.1.mono (S' := fun b => b = rb) fun _ _ e => e.elim).trans K.out.1 (fun _ _ e => e), .inr ⟨?_, rfl⟩⟩
    unfold dHead
    rw [K.out.2.1]
    simp only
    rw [if_neg K.out.2.2]
  subst hn
  have KK := Lib.hid kw1
  have BX := Lib.hid (A0.out.2.2.kept k1 hne)
  have RW := Lib.hid (A0.out.2.1.kept k1 hib)
  have RD := Lib.hid hrd
  have DN := Lib.hid hd
  have C0 := Lib.hid (RW.out.some (o := 0) (by omega)).choose_spec
  have C1 := Lib.hid (RW.out.some (o := 1) (by omega)).choose_spec
  have C2 := Lib.hid (RW.out.some (o := 2) (by omega)).choose_spec
  have hcx := BX.out.cell
  clear hrd hd k1 kw1
  rename World => wX
  go_wp2_with fail
  clear hcx
  refine (rowsP_any BX.out hne RD.out (LR0)).mono ?_
  rintro e wY ⟨kX, hor⟩
  have hltX := RW.out.lt
  have C0 := Lib.hid ((kX.cell (p := ⟨ib, 0, none⟩) RW.out.lt hib).trans C0.out)
  have C1 := Lib.hid ((kX.cell (p := ⟨ib, 1, none⟩) RW.out.lt hib).trans C1.out)
  have C2 := Lib.hid ((kX.cell (p := ⟨ib, 2, none⟩) RW.out.lt hib).trans C2.out)
  have KK := Lib.hid (KK.out.trans kX (fun _ _ e => .inl e))
  have BX := Lib.hid (BX.out.kept kX hne)
  have RW := Lib.hid (RW.out.kept kX hib)
  rcases hor with ⟨l1, r1, sv, hdX, rfl, hown, hrX⟩ | ⟨hdX, rfl⟩
  case' inr =>
    have HDX := Lib.hid hdX
    clear kX hdX hltX
    simp only [lackE]
    go_wp2_with fail
    refine ⟨rfl, (A0.out.1.mono (S' := fun b => b = rb) fun _ _ e => e.elim).trans KK.out (fun b hb e => e.elim id (fun e => absurd hb (Nat.not_lt.2 (by rw [e, ← HX.out.2, HX.out.1]; exact Nat.le_succ _)))), .inr ⟨?_, rfl⟩⟩
    have hdX := HDX.out
    unfold dHead
    rw [DN.out]
    simp only
    rw [if_pos trivial]
    exact cPair_none1 (A := cRows cP 64 (by decide)) hdX
  have D1 := Lib.hid hdX
  have hO := hown.mono (Z' := fun b => ib < b) (fun b _ hz => by show ib < b; have hz : _ ≤ b := hz; omega)
  clear RD
  have RD := Lib.hid hrX
  obtain ⟨a0, c0', rfl, hc0, hz0⟩ := hO.form
  have O0 := Lib.hid hO
  rename World => wX
  obtain ⟨m0, hm0⟩ : ∃ m, (l1.map intP).length = m := ⟨_, rfl⟩
  have M0 := Lib.hid (And.intro hm0 hc0)
  rw [hm0]
  rw [hm0] at O0
  have hcx := BX.out.cell
  have f9 := RW.out.frozen 0
  obtain ⟨v9, c9'⟩ := RW.out.some (o := 0) (by omega)
  clear kX hdX hrX hown hO hc0 hz0 hm0 hltX
  go_wp2_with fail
  have kX := Kept.one_set wX ⟨ib, 0, none⟩ (.slice a0 m0 c0')
  have C0 := Lib.hid (cell_set_same RW.out (o := 0) (by omega) (.slice a0 m0 c0'))
  have C1 := Lib.hid ((show (wX.setCell ⟨ib, 0, none⟩ (.slice a0 m0 c0')).cell? ⟨ib, 1, none⟩ = wX.cell? ⟨ib, 1, none⟩ from World.cell?_setCell_other _ _ _ _ (by simp)).trans C1.out)
  have C2 := Lib.hid ((show (wX.setCell ⟨ib, 0, none⟩ (.slice a0 m0 c0')).cell? ⟨ib, 2, none⟩ = wX.cell? ⟨ib, 2, none⟩ from World.cell?_setCell_other _ _ _ _ (by simp)).trans C2.out)
  have KK := Lib.hid (KK.out.trans kX (fun b hb e => .inr e))
  have BX := Lib.hid (BX.out.kept kX (fun e => by have e : xb = ib := e; omega))
  have RD := Lib.hid (RD.out.kept kX (fun e => hib (Eq.symm e)) (fun b hb _ e => by have e : b = ib := e; omega))
  have O0 := Lib.hid (O0.out.kept kX (fun b _ hz e => by have e : b = ib := e; have hz : ib < b := hz; omega))
  have RW := Lib.hid (RW.out.setCell ⟨ib, 0, none⟩ (.slice a0 m0 c0'))
  obtain ⟨wY, hwY⟩ : ∃ wY, wX.setCell ⟨ib, 0, none⟩ (.slice a0 m0 c0') = wY := ⟨_, rfl⟩
  rw [hwY] at C0 C1 C2 KK RD BX RW O0
  rw [hwY]
  clear hwY kX f9 v9 c9' hcx
  rename World => wX
  refine (rowsD_any BX.out hne RD.out (Nat.le_trans (cRows_lt D1.out) (LR0))).mono ?_
  rintro e wY ⟨kX, hor⟩
  have hltX := RW.out.lt
  have C0 := Lib.hid ((kX.cell (p := ⟨ib, 0, none⟩) RW.out.lt hib).trans C0.out)
  have C1 := Lib.hid ((kX.cell (p := ⟨ib, 1, none⟩) RW.out.lt hib).trans C1.out)
  have C2 := Lib.hid ((kX.cell (p := ⟨ib, 2, none⟩) RW.out.lt hib).trans C2.out)
  have KK := Lib.hid (KK.out.trans kX (fun _ _ e => .inl e))
  have BX := Lib.hid (BX.out.kept kX hne)
  have RW := Lib.hid (RW.out.kept kX hib)
  have O0 := Lib.hid (O0.out.kept kX (fun b _ hz e => by have e : b = rb := e; have hz : ib < b := hz; omega))
  rcases hor with ⟨l2, r2, sv, hdX, rfl, hown, hrX⟩ | ⟨hdX, rfl⟩
  case' inr =>
    have HDX := Lib.hid hdX
    clear kX hdX hltX
    simp only [lackE]
    go_wp2_with fail
    refine ⟨rfl, (A0.out.1.mono (S' := fun b => b = rb) fun _ _ e => e.elim).trans KK.out (fun b hb e => e.elim id (fun e => absurd hb (Nat.not_lt.2 (by rw [e, ← HX.out.2, HX.out.1]; exact Nat.le_succ _)))), .inr ⟨?_, rfl⟩⟩
    have hdX := HDX.out
    unfold dHead
    rw [DN.out]
    simp only
    rw [if_pos trivial]
    exact cPair_none2 (A := cRows cP 64 (by decide)) D1.out (cPair_none1 (A := cRows cD 64 (by decide)) hdX)
  have D2 := Lib.hid hdX
  have hO := hown.mono (Z' := fun b => ib < b) (fun b _ hz => by show ib < b; have hz : _ ≤ b := hz; omega)
  clear RD
  have RD := Lib.hid hrX
  obtain ⟨a1, c1', rfl, hc1, hz1⟩ := hO.form
  have O1 := Lib.hid hO
  rename World => wX
  obtain ⟨m1, hm1⟩ : ∃ m, (l2.map intD).length = m := ⟨_, rfl⟩
  have M1 := Lib.hid (And.intro hm1 hc1)
  rw [hm1]
  rw [hm1] at O1
  have hcx := BX.out.cell
  have f9 := RW.out.frozen 1
  obtain ⟨v9, c9'⟩ := RW.out.some (o := 1) (by omega)
  clear kX hdX hrX hown hO hc1 hz1 hm1 hltX
  go_wp2_with fail
  have kX := Kept.one_set wX ⟨ib, 1, none⟩ (.slice a1 m1 c1')
  have C1 := Lib.hid (cell_set_same RW.out (o := 1) (by omega) (.slice a1 m1 c1'))
  have C0 := Lib.hid ((show (wX.setCell ⟨ib, 1, none⟩ (.slice a1 m1 c1')).cell? ⟨ib, 0, none⟩ = wX.cell? ⟨ib, 0, none⟩ from World.cell?_setCell_other _ _ _ _ (by simp)).trans C0.out)
  have C2 := Lib.hid ((show (wX.setCell ⟨ib, 1, none⟩ (.slice a1 m1 c1')).cell? ⟨ib, 2, none⟩ = wX.cell? ⟨ib, 2, none⟩ from World.cell?_setCell_other _ _ _ _ (by simp)).trans C2.out)
  have KK := Lib.hid (KK.out.trans kX (fun b hb e => .inr e))
  have BX := Lib.hid (BX.out.kept kX (fun e => by have e : xb = ib := e; omega))
  have RD := Lib.hid (RD.out.kept kX (fun e => hib (Eq.symm e)) (fun b hb _ e => by have e : b = ib := e; omega))
  have O0 := Lib.hid (O0.out.kept kX (fun b _ hz e => by have e : b = ib := e; have hz : ib < b := hz; omega))
  have O1 := Lib.hid (O1.out.kept kX (fun b _ hz e => by have e : b = ib := e; have hz : ib < b := hz; omega))
  have RW := Lib.hid (RW.out.setCell ⟨ib, 1, none⟩ (.slice a1 m1 c1'))
  obtain ⟨wY, hwY⟩ : ∃ wY, wX.setCell ⟨ib, 1, none⟩ (.slice a1 m1 c1') = wY := ⟨_, rfl⟩
  rw [hwY] at C0 C1 C2 KK RD BX RW O0 O1
  rw [hwY]
  clear hwY kX f9 v9 c9' hcx
  rename World => wX
  refine (rowsL_any BX.out hne RD.out (Nat.le_trans (cRows_lt D2.out) (Nat.le_trans (cRows_lt D1.out) (LR0)))).mono ?_
  rintro e wY ⟨kX, hor⟩
  have hltX := RW.out.lt
  have C0 := Lib.hid ((kX.cell (p := ⟨ib, 0, none⟩) RW.out.lt hib).trans C0.out)
  have C1 := Lib.hid ((kX.cell (p := ⟨ib, 1, none⟩) RW.out.lt hib).trans C1.out)
  have C2 := Lib.hid ((kX.cell (p := ⟨ib, 2, none⟩) RW.out.lt hib).trans C2.out)
  have KK := Lib.hid (KK.out.trans kX (fun _ _ e => .inl e))
  have BX := Lib.hid (BX.out.kept kX hne)
  have RW := Lib.hid (RW.out.kept kX hib)
  have O0 := Lib.hid (O0.out.kept kX (fun b _ hz e => by have e : b = rb := e; have hz : ib < b := hz; omega))
  have O1 := Lib.hid (O1.out.kept kX (fun b _ hz e => by have e : b = rb := e; have hz : ib < b := hz; omega))
  rcases hor with ⟨l3, r3, sv, hdX, rfl, hown, hownb, hrX⟩ | ⟨hdX, rfl⟩
  case' inr =>
    have HDX := Lib.hid hdX
    clear kX hdX hltX
    simp only [lackE]
    go_wp2_with fail
    refine ⟨rfl, (A0.out.1.mono (S' := fun b => b = rb) fun _ _ e => e.elim).trans KK.out (fun b hb e => e.elim id (fun e => absurd hb (Nat.not_lt.2 (by rw [e, ← HX.out.2, HX.out.1]; exact Nat.le_succ _)))), .inr ⟨?_, rfl⟩⟩
    have hdX := HDX.out
    unfold dHead
    rw [DN.out]
    simp only
    rw [if_pos trivial]
    exact cPair_none2 (A := cRows cP 64 (by decide)) D1.out (cPair_none2 (A := cRows cD 64 (by decide)) D2.out (hdX))
  have D3 := Lib.hid hdX
  have hO := linkV_own (Z := fun b => ib < b) hown (fun b e => Nat.lt_of_lt_of_le hltX (hownb b e))
  clear RD
  have RD := Lib.hid hrX
  obtain ⟨a2, c2', rfl, hc2, hz2⟩ := hO.form
  have O2 := Lib.hid hO
  rename World => wX
  obtain ⟨m2, hm2⟩ : ∃ m, (l3.map intL).length = m := ⟨_, rfl⟩
  have M2 := Lib.hid (And.intro hm2 hc2)
  rw [hm2]
  rw [hm2] at O2
  have hcx := BX.out.cell
  have f9 := RW.out.frozen 2
  obtain ⟨v9, c9'⟩ := RW.out.some (o := 2) (by omega)
  clear kX hdX hrX hown hO hc2 hz2 hm2 hltX hownb
  go_upto_region 6 with fail
  have kX := Kept.one_set wX ⟨ib, 2, none⟩ (.slice a2 m2 c2')
  have C2 := Lib.hid (cell_set_same RW.out (o := 2) (by omega) (.slice a2 m2 c2'))
  have C0 := Lib.hid ((show (wX.setCell ⟨ib, 2, none⟩ (.slice a2 m2 c2')).cell? ⟨ib, 0, none⟩ = wX.cell? ⟨ib, 0, none⟩ from World.cell?_setCell_other _ _ _ _ (by simp)).trans C0.out)
  have C1 := Lib.hid ((show (wX.setCell ⟨ib, 2, none⟩ (.slice a2 m2 c2')).cell? ⟨ib, 1, none⟩ = wX.cell? ⟨ib, 1, none⟩ from World.cell?_setCell_other _ _ _ _ (by simp)).trans C1.out)
  have KK := Lib.hid (KK.out.trans kX (fun b hb e => .inr e))
  have BX := Lib.hid (BX.out.kept kX (fun e => by have e : xb = ib := e; omega))
  have RD := Lib.hid (RD.out.kept kX (fun e => hib (Eq.symm e)) (fun b hb _ e => by have e : b = ib := e; omega))
  have O0 := Lib.hid (O0.out.kept kX (fun b _ hz e => by have e : b = ib := e; have hz : ib < b := hz; omega))
  have O1 := Lib.hid (O1.out.kept kX (fun b _ hz e => by have e : b = ib := e; have hz : ib < b := hz; omega))
  have O2 := Lib.hid (O2.out.kept kX (fun b _ hz e => by have e : b = ib := e; have hz : ib < b := hz; omega))
  have RW := Lib.hid (RW.out.setCell ⟨ib, 2, none⟩ (.slice a2 m2 c2'))
  obtain ⟨wY, hwY⟩ : ∃ wY, wX.setCell ⟨ib, 2, none⟩ (.slice a2 m2 c2') = wY := ⟨_, rfl⟩
  rw [hwY] at C0 C1 C2 KK RD BX RW O0 O1 O2
  rw [hwY]
  clear hwY kX f9 v9 c9' hcx
  rename World => wX
  have f0 := RW.out.frozen 0
  have f1 := RW.out.frozen 1
  have f2 := RW.out.frozen 2
  have e0 := C0.out
  have e1 := C1.out
  have e2 := C2.out
  go_wp2_with fail
  obtain ⟨t9, h9⟩ := row_set3 (v0 := .slice a0 m0 c0') (v1 := .slice a1 m1 c1') (v2 := .slice a2 m2 c2') RW.out
  refine bodyPost_ret (results_cell_row (ty := 75) (p := 2) rfl _ _ ib t9 #[.slice a0 m0 c0', .slice a1 m1 c1', .slice a2 m2 c2'] (0, 0) _ rfl h9 Tryz.underlying75 rfl (by kernel_rfl)) rfl ?_
  have ks : Kept (fun b => b = ib) wX _ := ((Kept.one_set wX ⟨ib, 0, none⟩ (.slice a0 m0 c0')).trans (Kept.one_set _ ⟨ib, 1, none⟩ (.slice a1 m1 c1')) (fun _ _ e => e)).trans (Kept.one_set _ ⟨ib, 2, none⟩ (.slice a2 m2 c2')) (fun _ _ e => e)
  obtain ⟨hm0, hc0⟩ := M0.out
  obtain ⟨hm1, hc1⟩ := M1.out
  obtain ⟨hm2, hc2⟩ := M2.out
  have hOO : ∀ b, b < wX.heap.size → ib < b → ¬ b = ib := fun b _ h e => by omega
  have hmo : ∀ {w9 : World} (b : Nat), b < w9.heap.size → ib < b → w.heap.size ≤ b := fun {w9} b _ h => by have := HX.out; omega
  obtain ⟨p0, q0, g0, -, z0⟩ := ((O0.out.kept ks hOO).mono (Z' := fun b => w.heap.size ≤ b) hmo).form
  obtain ⟨p1, q1, g1, -, z1⟩ := ((O1.out.kept ks hOO).mono (Z' := fun b => w.heap.size ≤ b) hmo).form
  obtain ⟨p2, q2, g2, -, z2⟩ := ((O2.out.kept ks hOO).mono (Z' := fun b => w.heap.size ≤ b) hmo).form
  obtain ⟨rfl, _, rfl⟩ : a0 = p0 ∧ m0 = m0 ∧ c0' = q0 := by cases g0; exact ⟨rfl, rfl, rfl⟩
  obtain ⟨rfl, _, rfl⟩ : a1 = p1 ∧ m1 = m1 ∧ c1' = q1 := by cases g1; exact ⟨rfl, rfl, rfl⟩
  obtain ⟨rfl, _, rfl⟩ : a2 = p2 ∧ m2 = m2 ∧ c2' = q2 := by cases g2; exact ⟨rfl, rfl, rfl⟩
  have hKF : Kept (fun b => b = rb ∨ b = ib) w0 _ := KK.out.trans ks (fun _ _ e => .inr e)
  refine ⟨(A0.out.1.mono (S' := fun b => b = rb) fun _ _ e => e.elim).trans hKF (fun b hb e => e.elim id (fun e => absurd hb (Nat.not_lt.2 (by rw [e, ← HX.out.2, HX.out.1]; exact Nat.le_succ _)))), .inl ⟨(l1, l2, l3), r3, _, ?_, rfl, ⟨a0, c0', a1, c1', a2, c2', ?_, ?_, ?_, ?_, z0, z1, z2⟩, RD.out.kept ks (fun e => hib (Eq.symm e)) (fun b hb _ e => by have e : b = ib := e; omega)⟩⟩
  · unfold dHead
    rw [DN.out]
    simp only
    rw [if_pos trivial]
    exact cPair_some (A := cRows cP 64 (by decide)) D1.out (cPair_some (A := cRows cD 64 (by decide)) D2.out D3.out)
  · rw [← hm0, ← hm1, ← hm2]
    rfl
  · exact hc0
  · exact hc1
  · exact hc2
end Go.Proofs.YtdkcnigghcbnpaaGreat
