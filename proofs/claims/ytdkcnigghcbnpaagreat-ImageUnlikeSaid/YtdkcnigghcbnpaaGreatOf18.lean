/- law18.of: an image as the document's. -/
import Derived.Test.YtdkcnigghcbnpaaGreatImgE
import Derived.Test.YtdkcnigghcbnpaaGreatHeldQ
namespace Go.Proofs.YtdkcnigghcbnpaaGreat
set_option linter.unusedVariables false
set_option linter.unusedSimpArgs false
open Go.RowKit Go.MapKept

theorem rdumpE : Elem Tryz.prog 81 140 (.agg #[.string ⟨#[]⟩, .int .i64 0, .int .i64 0, .int .i64 0, .int .i64 0, .slice none 0 0]) 6 72 := ⟨Tryz.underlying81, by kernel_rfl, rfl, by omega⟩
theorem rlinkE : Elem Tryz.prog 82 141 (.agg #[.string ⟨#[]⟩, .string ⟨#[]⟩, .int .i64 0]) 3 40 := ⟨Tryz.underlying82, by kernel_rfl, rfl, by omega⟩
theorem of_take {α : Type} {l : List α} {i : Nat} {p : α} (h : l[i]? = some p) : l.take (i + 1) = l.take i ++ [p] := by
  obtain ⟨h1, h2⟩ := List.getElem?_eq_some_iff.1 h
  rw [List.take_succ_eq_append_getElem h1, h2]
theorem of_cap {α : Type} {T : Thing α} {ty : TypeId} {w : World} {Z : Nat → Prop} {a : Option Addr} {n c : Nat} {l : List α} (h : OwnT T ty w Z (.slice a n c) l) : l.length ≤ c ∧ RowZ T w Z a l := by
  obtain ⟨a', c', e, h1, h2⟩ := h.form
  cases e
  exact ⟨h1, h2⟩
theorem of_fin {w wS0 wS1 wr W' : World} {x : GI} {xb rb bd0 bd1 n1 n2 n3 c1 c2 pc : Nat} {pa a1 a2 : Option Addr}
    (F0 : n2 ≤ c1 ∧ RowZ tDump wS1 (fun b => (bd0 ≤ b ∨ b < w.heap.size) ∧ b < wS1.heap.size) a1 (x.D.take n2) ∧ Kept (fun b => b = xb ∨ bd0 ≤ b) wS0 wS1)
    (F1 : n3 ≤ c2 ∧ RowZ tLink wr (fun b => bd1 ≤ b ∨ b < w.heap.size) a2 (x.L.take n3) ∧ Kept (fun b => b = xb ∨ bd1 ≤ b) wS1 wr)
    (K0 : Kept (fun _ => False) w wS0) (HXB0 : xb < bd0) (HXW : w.heap.size ≤ xb) (HRX : w.heap.size ≤ rb ∧ rb < xb) (HBB : bd0 ≤ bd1) (HBD0 : bd0 ≤ wS0.heap.size) (HBE1 : wS1.heap.size = bd1)
    (RP : RowZ tProg w (fun b => b < w.heap.size) pa x.P) (hpc : n1 ≤ pc) (HN : x.P.length = n1 ∧ x.D.length = n2 ∧ x.L.length = n3) (k : Kept (fun b => b = rb) wr W') :
    ImgAt W' (fun _ => True) (.agg #[.slice pa n1 pc, .slice a1 n2 c1, .slice a2 n3 c2]) x ∧ Kept (fun _ => False) w W' := by
  have eD : x.D.take n2 = x.D := by rw [← HN.2.1, List.take_length]
  have eL : x.L.take n3 = x.L := by rw [← HN.2.2, List.take_length]
  have kall : Kept (fun b => b = xb ∨ b = rb ∨ bd0 ≤ b) wS0 W' := ((F0.2.2.mono (S' := fun b => b = xb ∨ b = rb ∨ bd0 ≤ b) (fun b _ e => e.elim .inl (fun e => .inr (.inr e)))).trans F1.2.2 (fun b _ e => e.elim .inl (fun e => .inr (.inr (by omega))))).trans k (fun b _ e => .inr (.inl e))
  refine ⟨⟨pa, pc, a1, c1, a2, c2, by rw [HN.1, HN.2.1, HN.2.2], by rw [HN.1]; exact hpc, by rw [HN.2.1]; exact F0.1, by rw [HN.2.2]; exact F1.1, ?_, ?_, ?_⟩, K0.trans kall (fun b hb e => by rcases e with e | e | e <;> omega)⟩
  · exact ((RP.keep K0).kept kall (fun b _ hb e => by have hb : b < w.heap.size := hb; rcases e with e | e | e <;> omega)).mono (fun _ _ _ => trivial)
  · rw [← eD]
    exact ((F0.2.1.kept F1.2.2 (fun b _ hb e => by have h1 := hb.1; have h2 := hb.2; rcases e with e | e <;> rcases h1 with h1 | h1 <;> omega)).kept k (fun b _ hb e => by have e : b = rb := e; have h1 := hb.1; rcases h1 with h1 | h1 <;> omega)).mono (fun _ _ _ => trivial)
  · rw [← eL]
    exact (F1.2.1.kept k (fun b _ hb e => by have e : b = rb := e; have hb : bd1 ≤ b ∨ b < w.heap.size := hb; rcases hb with hb | hb <;> omega)).mono (fun _ _ _ => trivial)
set_option maxRecDepth 100000 in
set_option maxHeartbeats 4000000 in
theorem of_any {w : World} {Z : Nat → Prop} {v : Value} {x : GI} (h : ImgAt w Z v x) (hs : x.P.length ≤ 1000 ∧ x.D.length ≤ 1000 ∧ x.L.length ≤ 1000) :
    Calls Tryz.prog 36 #[v] w fun e w' => ∃ v', e = .returned v' ∧ ImgAt w' (fun _ => True) v' x ∧ Kept (fun _ => False) w w' := by
  obtain ⟨pa, pc, da, dc, la, lc, rfl, h1, h2, h3, z1, z2, z3⟩ := h
  have RP := Lib.hid (z1.mono (Z' := fun b => b < w.heap.size) (fun b hb _ => hb))
  have RDm := Lib.hid (z2.mono (Z' := fun b => b < w.heap.size) (fun b hb _ => hb))
  have RL := Lib.hid (z3.mono (Z' := fun b => b < w.heap.size) (fun b hb _ => hb))
  obtain ⟨n1, hn1⟩ : ∃ n1, x.P.length = n1 := ⟨_, rfl⟩
  obtain ⟨n2, hn2⟩ : ∃ n2, x.D.length = n2 := ⟨_, rfl⟩
  obtain ⟨n3, hn3⟩ : ∃ n3, x.L.length = n3 := ⟨_, rfl⟩
  rw [hn1] at h1
  rw [hn2] at h2
  rw [hn3] at h3
  rw [hn1, hn2, hn3] at hs ⊢
  have HN := Lib.hid (And.intro hn1 (And.intro hn2 hn3))
  have HPC := Lib.hid h1
  obtain ⟨-, hn2k, hn3k⟩ := hs
  obtain ⟨ib, hib⟩ : ∃ ib, w.heap.size = ib := ⟨_, rfl⟩
  clear z1 z2 z3 hn1 hn2 hn3 h1 h2 h3
  go_enter Tryz.func36, Tryz.ntmps36
  go_wp2_with fail
  obtain ⟨wS0, hw0⟩ : ∃ wS0, ((w.alloc (.cells #[.slice pa n1 pc, .slice da n2 dc, .slice la n3 lc] 75)).alloc (.cells #[.slice none 0 0, .slice none 0 0, .slice none 0 0] 84)).alloc (.cells #[.slice pa n1 pc, .slice none 0 0, .slice none 0 0] 84) = wS0 := ⟨_, rfl⟩
  have q1 := Kept.one_alloc w (.cells #[.slice pa n1 pc, .slice da n2 dc, .slice la n3 lc] 75)
  have q2 := Kept.one_alloc (w.alloc (.cells #[.slice pa n1 pc, .slice da n2 dc, .slice la n3 lc] 75)) (.cells #[.slice none 0 0, .slice none 0 0, .slice none 0 0] 84)
  have q3 := Kept.one_alloc ((w.alloc (.cells #[.slice pa n1 pc, .slice da n2 dc, .slice la n3 lc] 75)).alloc (.cells #[.slice none 0 0, .slice none 0 0, .slice none 0 0] 84)) (.cells #[.slice pa n1 pc, .slice none 0 0, .slice none 0 0] 84)
  have z1 : (w.alloc (.cells #[.slice pa n1 pc, .slice da n2 dc, .slice la n3 lc] 75)).heap.size = ib + 1 := by rw [← hib]; simp
  have z2 : ((w.alloc (.cells #[.slice pa n1 pc, .slice da n2 dc, .slice la n3 lc] 75)).alloc (.cells #[.slice none 0 0, .slice none 0 0, .slice none 0 0] 84)).heap.size = ib + 1 + 1 := by rw [← hib]; simp
  have i1 := fun i => World.cell?_alloc_new w #[.slice pa n1 pc, .slice da n2 dc, .slice la n3 lc] 75 i
  have i2 : RowAt _ _ 3 := RowAt.new (w.alloc (.cells #[.slice pa n1 pc, .slice da n2 dc, .slice la n3 lc] 75)) #[.slice none 0 0, .slice none 0 0, .slice none 0 0] 84
  have i3 : RowAt _ _ 3 := RowAt.new ((w.alloc (.cells #[.slice pa n1 pc, .slice da n2 dc, .slice la n3 lc] 75)).alloc (.cells #[.slice none 0 0, .slice none 0 0, .slice none 0 0] 84)) #[.slice pa n1 pc, .slice none 0 0, .slice none 0 0] 84
  have i4 := fun i => World.cell?_alloc_new ((w.alloc (.cells #[.slice pa n1 pc, .slice da n2 dc, .slice la n3 lc] 75)).alloc (.cells #[.slice none 0 0, .slice none 0 0, .slice none 0 0] 84)) #[.slice pa n1 pc, .slice none 0 0, .slice none 0 0] 84 i
  rw [hib] at i1
  rw [z1] at i2
  rw [z2] at i3 i4
  have i2 := i2.kept q3 (fun e => e)
  have q23 := q2.trans q3 (fun _ _ e => e)
  have K0 := Lib.hid (q1.trans q23 (fun _ _ e => e))
  have j : ∀ i, _ := fun i => (q23.cell (p := ⟨ib, i, none⟩) (by rw [z1]; exact Nat.lt_succ_self ib) (fun e => e)).trans (i1 i)
  rw [hw0] at i2 i3 i4 j K0 ⊢
  obtain ⟨rb, hrb⟩ : ∃ rb, ib + 1 = rb := ⟨_, rfl⟩
  obtain ⟨xb, hxb⟩ : ∃ xb, rb + 1 = xb := ⟨_, rfl⟩
  rw [hrb] at i2 i3 i4 ⊢
  rw [hxb] at i3 i4 ⊢
  obtain ⟨bd0, hbd⟩ : ∃ bd0, wS0.heap.size = bd0 := ⟨_, rfl⟩
  have hlt := i3.lt
  have HXB0 := Lib.hid (show xb < bd0 from by omega)
  have HBD0 := Lib.hid (show bd0 ≤ wS0.heap.size from Nat.le_of_eq hbd.symm)
  have HIX := Lib.hid (show ib < xb from by omega)
  have HRX := Lib.hid (show w.heap.size ≤ rb ∧ rb < xb from by omega)
  have HXW := Lib.hid (show w.heap.size ≤ xb from by omega)
  have RB := Lib.hid i2
  have S0 := Lib.hid (show RowAt wS0 xb 3 ∧ wS0.cell? ⟨xb, 0, none⟩ = some (.slice pa n1 pc) ∧ wS0.cell? ⟨xb, 1, none⟩ = some (.slice none 0 0) ∧ wS0.cell? ⟨xb, 2, none⟩ = some (.slice none 0 0) from ⟨i3, i4 0, i4 1, i4 2⟩)
  have CI := Lib.hid (show wS0.cell? ⟨ib, 1, none⟩ = some (.slice da n2 dc) ∧ wS0.cell? ⟨ib, 2, none⟩ = some (.slice la n3 lc) ∧ ib < wS0.heap.size from ⟨j 1, j 2, by omega⟩)
  clear q1 q2 q3 z1 z2 i1 i2 i3 i4 q23 j hw0 hrb hxb hbd hlt hib
  go_loopw [4] (fun s4 wr => RowKit.Hid  (∃ (i : Nat) (a4 : Option Addr) (c4 : Nat), i ≤ n2 ∧ s4 = .int .i64 (i : Int) ∧ RowAt wr xb 3 ∧ wr.cell? ⟨xb, 1, none⟩ = some (.slice a4 i c4) ∧ wr.cell? ⟨xb, 0, none⟩ = some (.slice pa n1 pc) ∧ wr.cell? ⟨xb, 2, none⟩ = some (.slice none 0 0) ∧ OwnT tDump 140 wr (fun b => bd0 ≤ b ∨ b < w.heap.size) (.slice a4 i c4) (x.D.take i) ∧ (∀ b, (Value.slice a4 i c4).ownBlock = some b → bd0 ≤ b) ∧ Kept (fun b => b = xb ∨ bd0 ≤ b) wS0 wr)) (fun s4 _ => n2 - (intOf s4).toNat)
  case atStart => exact Lib.hid ⟨0, none, 0, Nat.zero_le _, rfl, S0.out.1, S0.out.2.2.1, S0.out.2.1, S0.out.2.2.2, OwnT.nil, (fun b e => by cases e), Kept.refl _ _⟩
  case' round =>
    obtain ⟨i, a4, c4, hi, rfl, hrw, hck, h0, h2, hown, hob, hk⟩ := hrel.out
    have hlen : (x.D.take i).length = i := by rw [List.length_take, HN.out.2.1]; omega
  by_cases hlt : i < n2
  · have hin : (i : Int) < (n2 : Int) := by omega
    have c0 := (hk.cell (p := ⟨ib, 1, none⟩) CI.out.2.2 (fun e => by have := HIX.out; have := HXB0.out; rcases e with e | e <;> simp only at e <;> omega)).trans CI.out.1
    obtain ⟨p, hp⟩ : ∃ p, x.D[i]? = some p := ⟨_, List.getElem?_eq_getElem (by rw [HN.out.2.1]; omega)⟩
    have hrow : RowZ tDump wr (fun b => b < w.heap.size) da x.D := (RDm.out.keep K0.out).kept hk (fun b _ hz e => by have hz : b < w.heap.size := hz; have := HXW.out; have := HXB0.out; rcases e with e | e <;> omega)
    obtain ⟨b, o, ga, gc, rfl, hb, hbw, hgc, hgz, d0, d1, d2, d3, d4, d5⟩ := hrow.dump hp
    have HP := Lib.hid hp
    have HBW := Lib.hid (show b < w.heap.size from hbw)
    have kA := Kept.refl (fun _ => False) wr
    have HIB := Lib.hid (Nat.lt_of_lt_of_le CI.out.2.2 hk.size)
    obtain ⟨⟨nm, kd, kz, vz, mx⟩, data⟩ := p
    simp only at hgc hgz d0 d1 d2 d3 d4 d5
    have hat : DAt wr (fun b => b < w.heap.size) ⟨⟨nm, kd, kz, vz, mx⟩, data⟩ [.string nm, .int .i64 kd, .int .i64 kz, .int .i64 vz, .int .i64 mx, .slice ga data.size gc] := ⟨ga, gc, rfl, hgc, hgz⟩
    obtain ⟨nc, hnc⟩ : ∃ nc, data.size = nc := ⟨_, rfl⟩
    rw [hnc] at d5 hat
    have HAT := Lib.hid hat
    clear hgc hgz hat hnc
    clear hrow hbw
    go_upto_region 5 with fail
    have hck := (kA.cell (p := ⟨xb, 1, none⟩) hrw.lt (fun e => e)).trans hck
    have h0 := (kA.cell (p := ⟨xb, 0, none⟩) hrw.lt (fun e => e)).trans h0
    have h2 := (kA.cell (p := ⟨xb, 2, none⟩) hrw.lt (fun e => e)).trans h2
    have hrw := hrw.kept kA (fun e => e)
    have hown := hown.keep kA
    have hk := hk.trans kA (fun _ _ e => e.elim)
    have R := Lib.hid (And.intro hown (And.intro hk (And.intro hlen (And.intro hrw hob))))
    obtain ⟨css, ho, hcl, hat, hz⟩ := hown
    have hx1 : tDump.at_ wr (fun b => (bd0 ≤ b ∨ b < w.heap.size) ∧ (Value.slice a4 i c4).ownBlock ≠ some b) ((⟨⟨nm, kd, kz, vz, mx⟩, data⟩ : GD)) [.string nm, .int .i64 kd, .int .i64 kz, .int .i64 vz, .int .i64 mx, .slice ga nc gc] := tDump.mono HAT.out (fun b _ hb => ⟨.inr hb, fun e => by have := hob b e; have hb : b < w.heap.size := hb; have := HXW.out; have := HXB0.out; omega⟩)
    rw [hlen] at ho hcl
    have HO := Lib.hid ho
    have HCK := Lib.hid hck
    have CX := Lib.hid (show ∀ w', Kept (fun b => (Value.slice a4 i c4).ownBlock = some b) wr w' → w'.cell? ⟨ib, 1, none⟩ = some (.slice (some ⟨b, o, none⟩) n2 dc) ∧ w'.cell? ⟨xb, 1, none⟩ = some (.slice a4 i c4) ∧ w'.cell? ⟨b, o + i * 6, none⟩ = some (.string nm) ∧ w'.cell? ⟨b, o + i * 6 + 1, none⟩ = some (.int .i64 kd) ∧ w'.cell? ⟨b, o + i * 6 + 2, none⟩ = some (.int .i64 kz) ∧ w'.cell? ⟨b, o + i * 6 + 3, none⟩ = some (.int .i64 vz) ∧ w'.cell? ⟨b, o + i * 6 + 4, none⟩ = some (.int .i64 mx) ∧ w'.cell? ⟨b, o + i * 6 + 5, none⟩ = some (.slice ga nc gc) from fun w' kk => ⟨(kk.cell (p := ⟨ib, 1, none⟩) HIB.out (fun e => by have := hob ib e; have := HIX.out; have := HXB0.out; omega)).trans c0, (kk.cell (p := ⟨xb, 1, none⟩) hrw.lt (fun e => by have := hob xb e; have := HXB0.out; omega)).trans hck, (kk.cell (p := ⟨b, o + i * 6, none⟩) hb (fun e => by have := hob b e; have := HBW.out; have := HXB0.out; have := HXW.out; omega)).trans d0, (kk.cell (p := ⟨b, o + i * 6 + 1, none⟩) hb (fun e => by have := hob b e; have := HBW.out; have := HXB0.out; have := HXW.out; omega)).trans d1, (kk.cell (p := ⟨b, o + i * 6 + 2, none⟩) hb (fun e => by have := hob b e; have := HBW.out; have := HXB0.out; have := HXW.out; omega)).trans d2, (kk.cell (p := ⟨b, o + i * 6 + 3, none⟩) hb (fun e => by have := hob b e; have := HBW.out; have := HXB0.out; have := HXW.out; omega)).trans d3, (kk.cell (p := ⟨b, o + i * 6 + 4, none⟩) hb (fun e => by have := hob b e; have := HBW.out; have := HXB0.out; have := HXW.out; omega)).trans d4, (kk.cell (p := ⟨b, o + i * 6 + 5, none⟩) hb (fun e => by have := hob b e; have := HBW.out; have := HXB0.out; have := HXW.out; omega)).trans d5⟩)
    have HBI := Lib.hid (And.intro hlt hin)
    have OTH0 := Lib.hid h0
    have OTH2 := Lib.hid h2
    have X := Lib.hid (And.intro hcl (And.intro hat (And.intro hz hx1)))
    have HLL := Lib.hid (show i + 1 ≤ n2 from by have := hlt; omega)
    clear ho hcl hat hz hx1 hk hlen hrw hob kA hck c0 d0 d1 d2 d3 d4 d5 hb hp h0 h2
    refine wp_region_heldE 18 (S := fun w' => w'.cell? ⟨ib, 1, none⟩ = some (.slice (some ⟨b, o, none⟩) n2 dc) ∧ w'.cell? ⟨xb, 1, none⟩ = some (.slice a4 i c4) ∧ w'.cell? ⟨b, o + i * 6, none⟩ = some (.string nm) ∧ w'.cell? ⟨b, o + i * 6 + 1, none⟩ = some (.int .i64 kd) ∧ w'.cell? ⟨b, o + i * 6 + 2, none⟩ = some (.int .i64 kz) ∧ w'.cell? ⟨b, o + i * 6 + 3, none⟩ = some (.int .i64 vz) ∧ w'.cell? ⟨b, o + i * 6 + 4, none⟩ = some (.int .i64 mx) ∧ w'.cell? ⟨b, o + i * 6 + 5, none⟩ = some (.slice ga nc gc)) (by kernel_rfl) ?_ (fun hHeld => ?_)
    · exact CX.out _ ((Kept.refl _ _).twin ⟨rfl, rfl, rfl, rfl⟩)
    refine heldE_take 0 (oi := _) (v := ?_) rfl (by kernel_rfl) (by kernel_rfl) (by kernel_rfl) (by kernel_rfl) (fun _ _ _ h => h) (by rfl) (fun w hSw => ?_) (by assumption) ?_
    rotate_left
    · (try dsimp only at hSw); go_simp; try with_reducible rfl
    try simp only [Act.put, List.setIfInBounds_toArray, List.set_cons_zero, List.set_cons_succ]
    refine heldE_take 1 (oi := _) (v := ?_) rfl (by kernel_rfl) (by kernel_rfl) (by kernel_rfl) (by kernel_rfl) (fun _ _ _ h => h) (by rfl) (fun w hSw => ?_) (by assumption) ?_
    rotate_left
    · (try dsimp only at hSw); go_simp; try with_reducible rfl
    try simp only [Act.put, List.setIfInBounds_toArray, List.set_cons_zero, List.set_cons_succ]
    refine heldE_take 2 (oi := _) (v := ?_) rfl (by kernel_rfl) (by kernel_rfl) (by kernel_rfl) (by kernel_rfl) (fun _ _ _ h => h) (by rfl) (fun w hSw => ?_) (by assumption) ?_
    rotate_left
    · (try dsimp only at hSw); go_simp; try with_reducible rfl
    try simp only [Act.put, List.setIfInBounds_toArray, List.set_cons_zero, List.set_cons_succ]
    refine heldE_take 3 (oi := _) (v := ?_) rfl (by kernel_rfl) (by kernel_rfl) (by kernel_rfl) (by kernel_rfl) (fun _ _ _ h => h) (by rfl) (fun w hSw => ?_) (by assumption) ?_
    rotate_left
    · (try dsimp only at hSw); go_simp; try with_reducible rfl
    try simp only [Act.put, List.setIfInBounds_toArray, List.set_cons_zero, List.set_cons_succ]
    refine heldE_take 4 (oi := _) (v := ?_) rfl (by kernel_rfl) (by kernel_rfl) (by kernel_rfl) (by kernel_rfl) (fun _ _ _ h => h) (by rfl) (fun w hSw => ?_) (by assumption) ?_
    rotate_left
    · (try dsimp only at hSw); go_simp; try with_reducible rfl
    try simp only [Act.put, List.setIfInBounds_toArray, List.set_cons_zero, List.set_cons_succ]
    refine heldE_take 5 (oi := _) (v := ?_) rfl (by kernel_rfl) (by kernel_rfl) (by kernel_rfl) (by kernel_rfl) (fun _ _ _ h => h) (by rfl) (fun w hSw => ?_) (by assumption) ?_
    rotate_left
    · (try dsimp only at hSw); go_simp; try with_reducible rfl
    try simp only [Act.put, List.setIfInBounds_toArray, List.set_cons_zero, List.set_cons_succ]
    refine heldE_take 6 (oi := _) (v := ?_) rfl (by kernel_rfl) (by kernel_rfl) (by kernel_rfl) (by kernel_rfl) (fun _ _ _ h => h) (by rfl) (fun w hSw => ?_) (by assumption) ?_
    rotate_left
    · (try dsimp only at hSw); go_simp; try with_reducible rfl
    try simp only [Act.put, List.setIfInBounds_toArray, List.set_cons_zero, List.set_cons_succ]
    refine heldE_take 7 (oi := _) (v := ?_) rfl (by kernel_rfl) (by kernel_rfl) (by kernel_rfl) (by kernel_rfl) (fun _ _ _ h => h) (by rfl) (fun w hSw => ?_) (by assumption) ?_
    rotate_left
    · (try dsimp only at hSw); go_simp; try with_reducible rfl
    try simp only [Act.put, List.setIfInBounds_toArray, List.set_cons_zero, List.set_cons_succ]
    refine heldE_take 8 (oi := _) (v := ?_) rfl (by kernel_rfl) (by kernel_rfl) (by kernel_rfl) (by kernel_rfl) (fun _ _ _ h => h) (by rfl) (fun w hSw => ?_) (by assumption) ?_
    rotate_left
    · (try dsimp only at hSw); go_simp; try with_reducible rfl
    try simp only [Act.put, List.setIfInBounds_toArray, List.set_cons_zero, List.set_cons_succ]
    refine heldE_take 9 (oi := _) (v := ?_) rfl (by kernel_rfl) (by kernel_rfl) (by kernel_rfl) (by kernel_rfl) (fun _ _ _ h => h) (by rfl) (fun w hSw => ?_) (by assumption) ?_
    rotate_left
    · (try dsimp only at hSw); go_simp; try with_reducible rfl
    try simp only [Act.put, List.setIfInBounds_toArray, List.set_cons_zero, List.set_cons_succ]
    refine heldE_take 10 (oi := _) (v := ?_) rfl (by kernel_rfl) (by kernel_rfl) (by kernel_rfl) (by kernel_rfl) (fun _ _ _ h => h) (by rfl) (fun w hSw => ?_) (by assumption) ?_
    rotate_left
    · (try dsimp only at hSw); go_simp; try with_reducible rfl
    try simp only [Act.put, List.setIfInBounds_toArray, List.set_cons_zero, List.set_cons_succ]
    refine heldE_take 11 (oi := _) (v := ?_) rfl (by kernel_rfl) (by kernel_rfl) (by kernel_rfl) (by kernel_rfl) (fun _ _ _ h => h) (by rfl) (fun w hSw => ?_) (by assumption) ?_
    rotate_left
    · (try dsimp only at hSw); go_simp; try with_reducible rfl
    try simp only [Act.put, List.setIfInBounds_toArray, List.set_cons_zero, List.set_cons_succ]
    refine heldE_take 12 (oi := _) (v := ?_) rfl (by kernel_rfl) (by kernel_rfl) (by kernel_rfl) (by kernel_rfl) (fun _ _ _ h => h) (by rfl) (fun w hSw => ?_) (by assumption) ?_
    rotate_left
    · (try dsimp only at hSw); go_simp; try with_reducible rfl
    try simp only [Act.put, List.setIfInBounds_toArray, List.set_cons_zero, List.set_cons_succ]
    refine heldE_take 13 (oi := _) (v := ?_) rfl (by kernel_rfl) (by kernel_rfl) (by kernel_rfl) (by kernel_rfl) (fun _ _ _ h => h) (by rfl) (fun w hSw => ?_) (by assumption) ?_
    rotate_left
    · (try dsimp only at hSw); go_simp; try with_reducible rfl
    try simp only [Act.put, List.setIfInBounds_toArray, List.set_cons_zero, List.set_cons_succ]
    refine heldE_take 14 (oi := _) (v := ?_) rfl (by kernel_rfl) (by kernel_rfl) (by kernel_rfl) (by kernel_rfl) (fun _ _ _ h => h) (by rfl) (fun w hSw => ?_) (by assumption) ?_
    rotate_left
    · (try dsimp only at hSw); go_simp; try with_reducible rfl
    try simp only [Act.put, List.setIfInBounds_toArray, List.set_cons_zero, List.set_cons_succ]
    refine wpAnyE_ready (rs := [15]) (by kernel_rfl) (by simp) ?_
    refine heldE_cons 15 (o := _) rfl (fun KC hKC => ?_) AllReadyE.nil
    go_simp
    first | refine alloc_abs (K := KC _) ?_ | refine alloc_absD (K := KC _) ?_
    intro wB kB hB
    have KQ := Lib.hid (show Kept (fun _ => False) wr wB from kB)
    have HB := Lib.hid hB
    have HROW := Lib.hid (ownsRow_kept HO.out kB (fun _ _ e => e))
    clear kB hB
    refine hKC.out _ _ ?_ (fun hHeld => ?_)
    · first | exact CX.out _ ((KQ.out.mono (S' := fun b => (Value.slice a4 i c4).ownBlock = some b) (fun _ _ e => e.elim)).trans O6.out.2.1 (fun _ _ e => e)) | exact CX.out _ (KQ.out.mono (fun _ _ e => e.elim))
    clear hKC KC
    try simp only [Act.put, List.setIfInBounds_toArray, List.set_cons_zero, List.set_cons_succ]
    refine wpAnyE_ready (rs := [16]) (by kernel_rfl) (by simp) ?_
    refine heldE_cons 16 (o := _) rfl (fun KC hKC => ?_) AllReadyE.nil
    refine step_append_mine rfl (.tmp 17) (.tmp 31) rdumpE rfl rfl HROW.out (some ⟨wr.heap.size, 0, none⟩) 1 1 [.string nm, .int .i64 kd, .int .i64 kz, .int .i64 vz, .int .i64 mx, .slice ga nc gc] rfl rfl (holds_block HB.out) (by simp [Value.oneCell']) (by have := HLL.out; unfold maxLen; omega) (by have := HLL.out; omega) ?_
    intro a3 c3 w6 own6 k6 b6
    have hne6 : ¬ (Value.slice a4 i c4).ownBlock = some xb := (fun e => by have := R.out.2.2.2.2 xb e; have := HXB0.out; omega)
    have hc6 : w6.cell? ⟨xb, 1, none⟩ = some (.slice a4 i c4) := ((k6.cell (p := ⟨xb, 1, none⟩) (Nat.lt_of_lt_of_le R.out.2.2.2.1.lt KQ.out.size) hne6).trans (KQ.out.cell (p := ⟨xb, 1, none⟩) R.out.2.2.2.1.lt (fun e => e))).trans HCK.out
    have hf6 : w6.frozen? ⟨xb, 1, none⟩ = false := ((R.out.2.2.2.1.kept KQ.out (fun e => e)).kept k6 hne6).frozen 1
    have HNE6 := Lib.hid hne6
    have O6 := Lib.hid (And.intro own6 (And.intro k6 b6))
    clear own6 k6 b6 hne6
    refine hKC.out _ _ ?_ (fun hHeld => ?_)
    · first | exact CX.out _ ((KQ.out.mono (S' := fun b => (Value.slice a4 i c4).ownBlock = some b) (fun _ _ e => e.elim)).trans O6.out.2.1 (fun _ _ e => e)) | exact CX.out _ (KQ.out.mono (fun _ _ e => e.elim))
    clear hKC KC
    try simp only [Act.put, List.setIfInBounds_toArray, List.set_cons_zero, List.set_cons_succ]
    refine heldE_take 17 (oi := _) (v := ?_) rfl (by kernel_rfl) (by kernel_rfl) (by kernel_rfl) (by kernel_rfl) (fun _ _ _ h => h) (by rfl) (fun w hSw => ?_) (by assumption) ?_
    rotate_left
    · (try dsimp only at hSw); go_simp; try with_reducible rfl
    try simp only [Act.put, List.setIfInBounds_toArray, List.set_cons_zero, List.set_cons_succ]
    refine wpAnyE_ready (rs := [18]) (by kernel_rfl) (by simp) ?_
    refine heldE_last (o := _) rfl (fun KC hKC => ?_) AllReadyE.nil
    go_simp
    refine hKC.out _ _ ?_
    clear hKC KC
    try simp only [Act.put, List.setIfInBounds_toArray, List.set_cons_zero, List.set_cons_succ]
    refine wpAnyE_done (by kernel_rfl) (NoPanic.normal ?_) _
    go_wp2_with fail
    obtain ⟨hcl, hat, hz, hx1⟩ := X.out
    obtain ⟨hown, hk, hlen, hrw, hob⟩ := R.out
    have h0 := OTH0.out
    have h2 := OTH2.out
    have hne6 := HNE6.out
    have kq := KQ.out
    have hsn := OwnT.snoc (T := tDump) (l := x.D.take i) (x := (⟨⟨nm, kd, kz, vz, mx⟩, data⟩ : GD)) (css := css) (Z := fun b => bd0 ≤ b ∨ b < w.heap.size) (by rw [hlen]; exact HROW.out) (by rw [hlen]; exact hcl) (fun i x cs h1 h2 => tDump.kept (hat i x cs h1 h2) kq (fun _ _ _ e => e)) hz (tDump.kept hx1 kq (fun _ _ _ e => e)) (by rw [hlen]; exact O6.out.1) O6.out.2.1 O6.out.2.2
    have hbd : bd0 ≤ wr.heap.size := Nat.le_trans HBD0.out hk.size
    have hzq := kq.size
    have hown6 : OwnT tDump 140 w6 (fun b => bd0 ≤ b ∨ b < w.heap.size) (.slice a3 (i + 1) c3) (x.D.take (i + 1)) := by
      rw [show x.D.take (i + 1) = x.D.take i ++ [(⟨⟨nm, kd, kz, vz, mx⟩, data⟩ : GD)] from of_take HP.out]
      exact hsn.mono (fun b _ hb => hb.elim id (fun e => .inl (by omega)))
    have hob6 : ∀ b, (Value.slice a3 (i + 1) c3).ownBlock = some b → bd0 ≤ b := fun b e => by
      rcases O6.out.2.2 with ho | ho
      · exact hob b (ho.symm.trans e)
      · have := Option.some.inj (ho.symm.trans e)
        omega
    have k06 : Kept (fun b => (Value.slice a4 i c4).ownBlock = some b) wr w6 := (kq.mono (S' := fun b => (Value.slice a4 i c4).ownBlock = some b) (fun _ _ e => e.elim)).trans O6.out.2.1 (fun _ _ e => e)
    have hrw6 := hrw.kept k06 hne6
    have ks := Kept.one_set w6 ⟨xb, 1, none⟩ (.slice a3 (i + 1) c3)
    have k0s : Kept (fun b => b = xb ∨ bd0 ≤ b) wr _ := (k06.mono (S' := fun b => b = xb ∨ bd0 ≤ b) (fun b _ e => .inr (hob b e))).trans ks (fun _ _ e => .inl e)
    refine ⟨Lib.hid ⟨i + 1, a3, c3, hlt, rfl, hrw6.setCell _ _, cell_set_same hrw6 (by omega) _, (show (w6.setCell ⟨xb, 1, none⟩ (.slice a3 (i + 1) c3)).cell? ⟨xb, 0, none⟩ = some (.slice pa n1 pc) from (World.cell?_setCell_other _ _ _ _ (by simp)).trans ((k06.cell (p := ⟨xb, 0, none⟩) hrw.lt hne6).trans h0)), (show (w6.setCell ⟨xb, 1, none⟩ (.slice a3 (i + 1) c3)).cell? ⟨xb, 2, none⟩ = some (.slice none 0 0) from (World.cell?_setCell_other _ _ _ _ (by simp)).trans ((k06.cell (p := ⟨xb, 2, none⟩) hrw.lt hne6).trans h2)), hown6.kept ks (fun b _ hb e => by have e : b = xb := e; have hb : bd0 ≤ b ∨ b < w.heap.size := hb; have := HXB0.out; have := HXW.out; rcases hb with hb | hb <;> omega), hob6, hk.trans k0s (fun _ _ e => e)⟩, by simp only [intOf]; omega⟩
  · obtain rfl : n2 = i := by omega
    clear hlt hi
    have hfm := of_cap hown
    have F0 := Lib.hid (And.intro (show n2 ≤ c4 from by have := hfm.1; rw [hlen] at this; exact this) (And.intro (hfm.2.mono (Z' := fun b => (bd0 ≤ b ∨ b < w.heap.size) ∧ b < wr.heap.size) (fun b hb hz => ⟨hz, hb⟩)) hk))
    clear hfm hown hlen hob
    obtain ⟨a1, rfl⟩ : ∃ a, a = a4 := ⟨_, rfl⟩
    obtain ⟨c1, rfl⟩ : ∃ c, c = c4 := ⟨_, rfl⟩
    have S1 := Lib.hid (show RowAt wr xb 3 ∧ wr.cell? ⟨xb, 0, none⟩ = some (.slice pa n1 pc) ∧ wr.cell? ⟨xb, 1, none⟩ = some (.slice a1 n2 c1) ∧ wr.cell? ⟨xb, 2, none⟩ = some (.slice none 0 0) from ⟨hrw, h0, hck, h2⟩)
    have ci1 := (hk.cell (p := ⟨ib, 1, none⟩) CI.out.2.2 (fun e => by have := HIX.out; have := HXB0.out; rcases e with e | e <;> simp only at e <;> omega)).trans CI.out.1
    have ci2 := (hk.cell (p := ⟨ib, 2, none⟩) CI.out.2.2 (fun e => by have := HIX.out; have := HXB0.out; rcases e with e | e <;> simp only at e <;> omega)).trans CI.out.2.1
    have CI1 := Lib.hid (And.intro ci2 (Nat.lt_of_lt_of_le CI.out.2.2 hk.size))
    clear hck h0 h2 hrw hk
    obtain ⟨wS1, hw1⟩ : ∃ w', wr = w' := ⟨_, rfl⟩
    rw [hw1] at S1 F0 ci1 ci2 CI1 ⊢
    clear hw1
    obtain ⟨bd1, hbd⟩ : ∃ bd', wS1.heap.size = bd' := ⟨_, rfl⟩
    have HXB1 := Lib.hid (show xb < bd1 from by rw [← hbd]; exact S1.out.1.lt)
    have HBD1 := Lib.hid (show bd1 ≤ wS1.heap.size from Nat.le_of_eq hbd.symm)
    have HBE1 := Lib.hid hbd
    have HBB := Lib.hid (show bd0 ≤ bd1 from by have := F0.out.2.2.size; have := HBD0.out; omega)
    clear hbd
    go_wp2_with fail
    clear ci1 ci2
    go_loopw [5] (fun s5 wr => RowKit.Hid  (∃ (i : Nat) (a4 : Option Addr) (c4 : Nat), i ≤ n3 ∧ s5 = .int .i64 (i : Int) ∧ RowAt wr xb 3 ∧ wr.cell? ⟨xb, 2, none⟩ = some (.slice a4 i c4) ∧ wr.cell? ⟨xb, 0, none⟩ = some (.slice pa n1 pc) ∧ wr.cell? ⟨xb, 1, none⟩ = some (.slice a1 n2 c1) ∧ OwnT tLink 141 wr (fun b => bd1 ≤ b ∨ b < w.heap.size) (.slice a4 i c4) (x.L.take i) ∧ (∀ b, (Value.slice a4 i c4).ownBlock = some b → bd1 ≤ b) ∧ Kept (fun b => b = xb ∨ bd1 ≤ b) wS1 wr)) (fun s5 _ => n3 - (intOf s5).toNat)
    case atStart => exact Lib.hid ⟨0, none, 0, Nat.zero_le _, rfl, S1.out.1, S1.out.2.2.2, S1.out.2.1, S1.out.2.2.1, OwnT.nil, (fun b e => by cases e), Kept.refl _ _⟩
    case' round =>
      obtain ⟨i, a4, c4, hi, rfl, hrw, hck, h0, h1, hown, hob, hk⟩ := hrel.out
      have hlen : (x.L.take i).length = i := by rw [List.length_take, HN.out.2.2]; omega
    by_cases hlt : i < n3
    · have hin : (i : Int) < (n3 : Int) := by omega
      have c0 := (hk.cell (p := ⟨ib, 2, none⟩) CI1.out.2 (fun e => by have := HIX.out; have := HXB1.out; rcases e with e | e <;> simp only at e <;> omega)).trans CI1.out.1
      obtain ⟨p, hp⟩ : ∃ p, x.L[i]? = some p := ⟨_, List.getElem?_eq_getElem (by rw [HN.out.2.2]; omega)⟩
      have hrow : RowZ tLink wr (fun b => b < w.heap.size) la x.L := (RL.out.keep K0.out).kept (F0.out.2.2.trans hk (fun b hb e => e.elim .inl (fun e => .inr (by have := HBB.out; omega)))) (fun b _ hz e => by have hz : b < w.heap.size := hz; have := HXW.out; have := HXB0.out; rcases e with e | e <;> omega)
      obtain ⟨b, o, rfl, hb, hbw, d0, d1, d2⟩ := hrow.link hp
      have HP := Lib.hid hp
      have HBW := Lib.hid (show b < w.heap.size from hbw)
      have kA := Kept.refl (fun _ => False) wr
      have HIB := Lib.hid (Nat.lt_of_lt_of_le CI1.out.2 hk.size)
      obtain ⟨nm, pg, vr⟩ := p
      simp only at d0 d1 d2
      clear hrow hbw
      go_upto_region 9 with fail
      have hck := (kA.cell (p := ⟨xb, 2, none⟩) hrw.lt (fun e => e)).trans hck
      have h0 := (kA.cell (p := ⟨xb, 0, none⟩) hrw.lt (fun e => e)).trans h0
      have h1 := (kA.cell (p := ⟨xb, 1, none⟩) hrw.lt (fun e => e)).trans h1
      have hrw := hrw.kept kA (fun e => e)
      have hown := hown.keep kA
      have hk := hk.trans kA (fun _ _ e => e.elim)
      have R := Lib.hid (And.intro hown (And.intro hk (And.intro hlen (And.intro hrw hob))))
      obtain ⟨css, ho, hcl, hat, hz⟩ := hown
      have hx1 : tLink.at_ wr (fun b => (bd1 ≤ b ∨ b < w.heap.size) ∧ (Value.slice a4 i c4).ownBlock ≠ some b) ((⟨nm, pg, vr⟩ : GL)) [.string nm, .string pg, .int .i64 vr] := rfl
      rw [hlen] at ho hcl
      have HO := Lib.hid ho
      have HCK := Lib.hid hck
      have CX := Lib.hid (show ∀ w', Kept (fun b => (Value.slice a4 i c4).ownBlock = some b) wr w' → w'.cell? ⟨ib, 2, none⟩ = some (.slice (some ⟨b, o, none⟩) n3 lc) ∧ w'.cell? ⟨xb, 2, none⟩ = some (.slice a4 i c4) ∧ w'.cell? ⟨b, o + i * 3, none⟩ = some (.string nm) ∧ w'.cell? ⟨b, o + i * 3 + 1, none⟩ = some (.string pg) ∧ w'.cell? ⟨b, o + i * 3 + 2, none⟩ = some (.int .i64 vr) from fun w' kk => ⟨(kk.cell (p := ⟨ib, 2, none⟩) HIB.out (fun e => by have := hob ib e; have := HIX.out; have := HXB1.out; omega)).trans c0, (kk.cell (p := ⟨xb, 2, none⟩) hrw.lt (fun e => by have := hob xb e; have := HXB1.out; omega)).trans hck, (kk.cell (p := ⟨b, o + i * 3, none⟩) hb (fun e => by have := hob b e; have := HBW.out; have := HXB1.out; have := HXW.out; omega)).trans d0, (kk.cell (p := ⟨b, o + i * 3 + 1, none⟩) hb (fun e => by have := hob b e; have := HBW.out; have := HXB1.out; have := HXW.out; omega)).trans d1, (kk.cell (p := ⟨b, o + i * 3 + 2, none⟩) hb (fun e => by have := hob b e; have := HBW.out; have := HXB1.out; have := HXW.out; omega)).trans d2⟩)
      have HBI := Lib.hid (And.intro hlt hin)
      have OTH0 := Lib.hid h0
      have OTH1 := Lib.hid h1
      have X := Lib.hid (And.intro hcl (And.intro hat (And.intro hz hx1)))
      have HLL := Lib.hid (show i + 1 ≤ n3 from by have := hlt; omega)
      clear ho hcl hat hz hx1 hk hlen hrw hob kA hck c0 d0 d1 d2 hb hp h0 h1
      refine wp_region_heldE 24 (S := fun w' => w'.cell? ⟨ib, 2, none⟩ = some (.slice (some ⟨b, o, none⟩) n3 lc) ∧ w'.cell? ⟨xb, 2, none⟩ = some (.slice a4 i c4) ∧ w'.cell? ⟨b, o + i * 3, none⟩ = some (.string nm) ∧ w'.cell? ⟨b, o + i * 3 + 1, none⟩ = some (.string pg) ∧ w'.cell? ⟨b, o + i * 3 + 2, none⟩ = some (.int .i64 vr)) (by kernel_rfl) ?_ (fun hHeld => ?_)
      · exact CX.out _ ((Kept.refl _ _).twin ⟨rfl, rfl, rfl, rfl⟩)
      refine heldE_take 0 (oi := _) (v := ?_) rfl (by kernel_rfl) (by kernel_rfl) (by kernel_rfl) (by kernel_rfl) (fun _ _ _ h => h) (by rfl) (fun w hSw => ?_) (by assumption) ?_
      rotate_left
      · (try dsimp only at hSw); go_simp; try with_reducible rfl
      try simp only [Act.put, List.setIfInBounds_toArray, List.set_cons_zero, List.set_cons_succ]
      refine heldE_take 1 (oi := _) (v := ?_) rfl (by kernel_rfl) (by kernel_rfl) (by kernel_rfl) (by kernel_rfl) (fun _ _ _ h => h) (by rfl) (fun w hSw => ?_) (by assumption) ?_
      rotate_left
      · (try dsimp only at hSw); go_simp; try with_reducible rfl
      try simp only [Act.put, List.setIfInBounds_toArray, List.set_cons_zero, List.set_cons_succ]
      refine heldE_take 2 (oi := _) (v := ?_) rfl (by kernel_rfl) (by kernel_rfl) (by kernel_rfl) (by kernel_rfl) (fun _ _ _ h => h) (by rfl) (fun w hSw => ?_) (by assumption) ?_
      rotate_left
      · (try dsimp only at hSw); go_simp; try with_reducible rfl
      try simp only [Act.put, List.setIfInBounds_toArray, List.set_cons_zero, List.set_cons_succ]
      refine heldE_take 3 (oi := _) (v := ?_) rfl (by kernel_rfl) (by kernel_rfl) (by kernel_rfl) (by kernel_rfl) (fun _ _ _ h => h) (by rfl) (fun w hSw => ?_) (by assumption) ?_
      rotate_left
      · (try dsimp only at hSw); go_simp; try with_reducible rfl
      try simp only [Act.put, List.setIfInBounds_toArray, List.set_cons_zero, List.set_cons_succ]
      refine heldE_take 4 (oi := _) (v := ?_) rfl (by kernel_rfl) (by kernel_rfl) (by kernel_rfl) (by kernel_rfl) (fun _ _ _ h => h) (by rfl) (fun w hSw => ?_) (by assumption) ?_
      rotate_left
      · (try dsimp only at hSw); go_simp; try with_reducible rfl
      try simp only [Act.put, List.setIfInBounds_toArray, List.set_cons_zero, List.set_cons_succ]
      refine heldE_take 5 (oi := _) (v := ?_) rfl (by kernel_rfl) (by kernel_rfl) (by kernel_rfl) (by kernel_rfl) (fun _ _ _ h => h) (by rfl) (fun w hSw => ?_) (by assumption) ?_
      rotate_left
      · (try dsimp only at hSw); go_simp; try with_reducible rfl
      try simp only [Act.put, List.setIfInBounds_toArray, List.set_cons_zero, List.set_cons_succ]
      refine heldE_take 6 (oi := _) (v := ?_) rfl (by kernel_rfl) (by kernel_rfl) (by kernel_rfl) (by kernel_rfl) (fun _ _ _ h => h) (by rfl) (fun w hSw => ?_) (by assumption) ?_
      rotate_left
      · (try dsimp only at hSw); go_simp; try with_reducible rfl
      try simp only [Act.put, List.setIfInBounds_toArray, List.set_cons_zero, List.set_cons_succ]
      refine heldE_take 7 (oi := _) (v := ?_) rfl (by kernel_rfl) (by kernel_rfl) (by kernel_rfl) (by kernel_rfl) (fun _ _ _ h => h) (by rfl) (fun w hSw => ?_) (by assumption) ?_
      rotate_left
      · (try dsimp only at hSw); go_simp; try with_reducible rfl
      try simp only [Act.put, List.setIfInBounds_toArray, List.set_cons_zero, List.set_cons_succ]
      refine heldE_take 8 (oi := _) (v := ?_) rfl (by kernel_rfl) (by kernel_rfl) (by kernel_rfl) (by kernel_rfl) (fun _ _ _ h => h) (by rfl) (fun w hSw => ?_) (by assumption) ?_
      rotate_left
      · (try dsimp only at hSw); go_simp; try with_reducible rfl
      try simp only [Act.put, List.setIfInBounds_toArray, List.set_cons_zero, List.set_cons_succ]
      refine heldE_take 9 (oi := _) (v := ?_) rfl (by kernel_rfl) (by kernel_rfl) (by kernel_rfl) (by kernel_rfl) (fun _ _ _ h => h) (by rfl) (fun w hSw => ?_) (by assumption) ?_
      rotate_left
      · (try dsimp only at hSw); go_simp; try with_reducible rfl
      try simp only [Act.put, List.setIfInBounds_toArray, List.set_cons_zero, List.set_cons_succ]
      refine heldE_take 10 (oi := _) (v := ?_) rfl (by kernel_rfl) (by kernel_rfl) (by kernel_rfl) (by kernel_rfl) (fun _ _ _ h => h) (by rfl) (fun w hSw => ?_) (by assumption) ?_
      rotate_left
      · (try dsimp only at hSw); go_simp; try with_reducible rfl
      try simp only [Act.put, List.setIfInBounds_toArray, List.set_cons_zero, List.set_cons_succ]
      refine heldE_take 11 (oi := _) (v := ?_) rfl (by kernel_rfl) (by kernel_rfl) (by kernel_rfl) (by kernel_rfl) (fun _ _ _ h => h) (by rfl) (fun w hSw => ?_) (by assumption) ?_
      rotate_left
      · (try dsimp only at hSw); go_simp; try with_reducible rfl
      try simp only [Act.put, List.setIfInBounds_toArray, List.set_cons_zero, List.set_cons_succ]
      refine heldE_take 12 (oi := _) (v := ?_) rfl (by kernel_rfl) (by kernel_rfl) (by kernel_rfl) (by kernel_rfl) (fun _ _ _ h => h) (by rfl) (fun w hSw => ?_) (by assumption) ?_
      rotate_left
      · (try dsimp only at hSw); go_simp; try with_reducible rfl
      try simp only [Act.put, List.setIfInBounds_toArray, List.set_cons_zero, List.set_cons_succ]
      refine heldE_take 13 (oi := _) (v := ?_) rfl (by kernel_rfl) (by kernel_rfl) (by kernel_rfl) (by kernel_rfl) (fun _ _ _ h => h) (by rfl) (fun w hSw => ?_) (by assumption) ?_
      rotate_left
      · (try dsimp only at hSw); go_simp; try with_reducible rfl
      try simp only [Act.put, List.setIfInBounds_toArray, List.set_cons_zero, List.set_cons_succ]
      refine heldE_take 14 (oi := _) (v := ?_) rfl (by kernel_rfl) (by kernel_rfl) (by kernel_rfl) (by kernel_rfl) (fun _ _ _ h => h) (by rfl) (fun w hSw => ?_) (by assumption) ?_
      rotate_left
      · (try dsimp only at hSw); go_simp; try with_reducible rfl
      try simp only [Act.put, List.setIfInBounds_toArray, List.set_cons_zero, List.set_cons_succ]
      refine heldE_take 15 (oi := _) (v := ?_) rfl (by kernel_rfl) (by kernel_rfl) (by kernel_rfl) (by kernel_rfl) (fun _ _ _ h => h) (by rfl) (fun w hSw => ?_) (by assumption) ?_
      rotate_left
      · (try dsimp only at hSw); go_simp; try with_reducible rfl
      try simp only [Act.put, List.setIfInBounds_toArray, List.set_cons_zero, List.set_cons_succ]
      refine heldE_take 16 (oi := _) (v := ?_) rfl (by kernel_rfl) (by kernel_rfl) (by kernel_rfl) (by kernel_rfl) (fun _ _ _ h => h) (by rfl) (fun w hSw => ?_) (by assumption) ?_
      rotate_left
      · (try dsimp only at hSw); go_simp; try with_reducible rfl
      try simp only [Act.put, List.setIfInBounds_toArray, List.set_cons_zero, List.set_cons_succ]
      refine heldE_take 17 (oi := _) (v := ?_) rfl (by kernel_rfl) (by kernel_rfl) (by kernel_rfl) (by kernel_rfl) (fun _ _ _ h => h) (by rfl) (fun w hSw => ?_) (by assumption) ?_
      rotate_left
      · (try dsimp only at hSw); go_simp; try with_reducible rfl
      try simp only [Act.put, List.setIfInBounds_toArray, List.set_cons_zero, List.set_cons_succ]
      refine heldE_take 18 (oi := _) (v := ?_) rfl (by kernel_rfl) (by kernel_rfl) (by kernel_rfl) (by kernel_rfl) (fun _ _ _ h => h) (by rfl) (fun w hSw => ?_) (by assumption) ?_
      rotate_left
      · (try dsimp only at hSw); go_simp; try with_reducible rfl
      try simp only [Act.put, List.setIfInBounds_toArray, List.set_cons_zero, List.set_cons_succ]
      refine heldE_take 19 (oi := _) (v := ?_) rfl (by kernel_rfl) (by kernel_rfl) (by kernel_rfl) (by kernel_rfl) (fun _ _ _ h => h) (by rfl) (fun w hSw => ?_) (by assumption) ?_
      rotate_left
      · (try dsimp only at hSw); go_simp; try with_reducible rfl
      try simp only [Act.put, List.setIfInBounds_toArray, List.set_cons_zero, List.set_cons_succ]
      refine heldE_take 20 (oi := _) (v := ?_) rfl (by kernel_rfl) (by kernel_rfl) (by kernel_rfl) (by kernel_rfl) (fun _ _ _ h => h) (by rfl) (fun w hSw => ?_) (by assumption) ?_
      rotate_left
      · (try dsimp only at hSw); go_simp; try with_reducible rfl
      try simp only [Act.put, List.setIfInBounds_toArray, List.set_cons_zero, List.set_cons_succ]
      refine wpAnyE_ready (rs := [21]) (by kernel_rfl) (by simp) ?_
      refine heldE_cons 21 (o := _) rfl (fun KC hKC => ?_) AllReadyE.nil
      go_simp
      first | refine alloc_abs (K := KC _) ?_ | refine alloc_absD (K := KC _) ?_
      intro wB kB hB
      have KQ := Lib.hid (show Kept (fun _ => False) wr wB from kB)
      have HB := Lib.hid hB
      have HROW := Lib.hid (ownsRow_kept HO.out kB (fun _ _ e => e))
      clear kB hB
      refine hKC.out _ _ ?_ (fun hHeld => ?_)
      · first | exact CX.out _ ((KQ.out.mono (S' := fun b => (Value.slice a4 i c4).ownBlock = some b) (fun _ _ e => e.elim)).trans O6.out.2.1 (fun _ _ e => e)) | exact CX.out _ (KQ.out.mono (fun _ _ e => e.elim))
      clear hKC KC
      try simp only [Act.put, List.setIfInBounds_toArray, List.set_cons_zero, List.set_cons_succ]
      refine wpAnyE_ready (rs := [22]) (by kernel_rfl) (by simp) ?_
      refine heldE_cons 22 (o := _) rfl (fun KC hKC => ?_) AllReadyE.nil
      refine step_append_mine rfl (.tmp 42) (.tmp 62) rlinkE rfl rfl HROW.out (some ⟨wr.heap.size, 0, none⟩) 1 1 [.string nm, .string pg, .int .i64 vr] rfl rfl (holds_block HB.out) (by simp [Value.oneCell']) (by have := HLL.out; unfold maxLen; omega) (by have := HLL.out; omega) ?_
      intro a3 c3 w6 own6 k6 b6
      have hne6 : ¬ (Value.slice a4 i c4).ownBlock = some xb := (fun e => by have := R.out.2.2.2.2 xb e; have := HXB1.out; omega)
      have hc6 : w6.cell? ⟨xb, 2, none⟩ = some (.slice a4 i c4) := ((k6.cell (p := ⟨xb, 2, none⟩) (Nat.lt_of_lt_of_le R.out.2.2.2.1.lt KQ.out.size) hne6).trans (KQ.out.cell (p := ⟨xb, 2, none⟩) R.out.2.2.2.1.lt (fun e => e))).trans HCK.out
      have hf6 : w6.frozen? ⟨xb, 2, none⟩ = false := ((R.out.2.2.2.1.kept KQ.out (fun e => e)).kept k6 hne6).frozen 2
      have HNE6 := Lib.hid hne6
      have O6 := Lib.hid (And.intro own6 (And.intro k6 b6))
      clear own6 k6 b6 hne6
      refine hKC.out _ _ ?_ (fun hHeld => ?_)
      · first | exact CX.out _ ((KQ.out.mono (S' := fun b => (Value.slice a4 i c4).ownBlock = some b) (fun _ _ e => e.elim)).trans O6.out.2.1 (fun _ _ e => e)) | exact CX.out _ (KQ.out.mono (fun _ _ e => e.elim))
      clear hKC KC
      try simp only [Act.put, List.setIfInBounds_toArray, List.set_cons_zero, List.set_cons_succ]
      refine heldE_take 23 (oi := _) (v := ?_) rfl (by kernel_rfl) (by kernel_rfl) (by kernel_rfl) (by kernel_rfl) (fun _ _ _ h => h) (by rfl) (fun w hSw => ?_) (by assumption) ?_
      rotate_left
      · (try dsimp only at hSw); go_simp; try with_reducible rfl
      try simp only [Act.put, List.setIfInBounds_toArray, List.set_cons_zero, List.set_cons_succ]
      refine wpAnyE_ready (rs := [24]) (by kernel_rfl) (by simp) ?_
      refine heldE_last (o := _) rfl (fun KC hKC => ?_) AllReadyE.nil
      go_simp
      refine hKC.out _ _ ?_
      clear hKC KC
      try simp only [Act.put, List.setIfInBounds_toArray, List.set_cons_zero, List.set_cons_succ]
      refine wpAnyE_done (by kernel_rfl) (NoPanic.normal ?_) _
      go_wp2_with fail
      obtain ⟨hcl, hat, hz, hx1⟩ := X.out
      obtain ⟨hown, hk, hlen, hrw, hob⟩ := R.out
      have h0 := OTH0.out
      have h1 := OTH1.out
      have hne6 := HNE6.out
      have kq := KQ.out
      have hsn := OwnT.snoc (T := tLink) (l := x.L.take i) (x := (⟨nm, pg, vr⟩ : GL)) (css := css) (Z := fun b => bd1 ≤ b ∨ b < w.heap.size) (by rw [hlen]; exact HROW.out) (by rw [hlen]; exact hcl) (fun i x cs h1 h2 => tLink.kept (hat i x cs h1 h2) kq (fun _ _ _ e => e)) hz (tLink.kept hx1 kq (fun _ _ _ e => e)) (by rw [hlen]; exact O6.out.1) O6.out.2.1 O6.out.2.2
      have hbd : bd1 ≤ wr.heap.size := Nat.le_trans HBD1.out hk.size
      have hzq := kq.size
      have hown6 : OwnT tLink 141 w6 (fun b => bd1 ≤ b ∨ b < w.heap.size) (.slice a3 (i + 1) c3) (x.L.take (i + 1)) := by
        rw [show x.L.take (i + 1) = x.L.take i ++ [(⟨nm, pg, vr⟩ : GL)] from of_take HP.out]
        exact hsn.mono (fun b _ hb => hb.elim id (fun e => .inl (by omega)))
      have hob6 : ∀ b, (Value.slice a3 (i + 1) c3).ownBlock = some b → bd1 ≤ b := fun b e => by
        rcases O6.out.2.2 with ho | ho
        · exact hob b (ho.symm.trans e)
        · have := Option.some.inj (ho.symm.trans e)
          omega
      have k06 : Kept (fun b => (Value.slice a4 i c4).ownBlock = some b) wr w6 := (kq.mono (S' := fun b => (Value.slice a4 i c4).ownBlock = some b) (fun _ _ e => e.elim)).trans O6.out.2.1 (fun _ _ e => e)
      have hrw6 := hrw.kept k06 hne6
      have ks := Kept.one_set w6 ⟨xb, 2, none⟩ (.slice a3 (i + 1) c3)
      have k0s : Kept (fun b => b = xb ∨ bd1 ≤ b) wr _ := (k06.mono (S' := fun b => b = xb ∨ bd1 ≤ b) (fun b _ e => .inr (hob b e))).trans ks (fun _ _ e => .inl e)
      refine ⟨Lib.hid ⟨i + 1, a3, c3, hlt, rfl, hrw6.setCell _ _, cell_set_same hrw6 (by omega) _, (show (w6.setCell ⟨xb, 2, none⟩ (.slice a3 (i + 1) c3)).cell? ⟨xb, 0, none⟩ = some (.slice pa n1 pc) from (World.cell?_setCell_other _ _ _ _ (by simp)).trans ((k06.cell (p := ⟨xb, 0, none⟩) hrw.lt hne6).trans h0)), (show (w6.setCell ⟨xb, 2, none⟩ (.slice a3 (i + 1) c3)).cell? ⟨xb, 1, none⟩ = some (.slice a1 n2 c1) from (World.cell?_setCell_other _ _ _ _ (by simp)).trans ((k06.cell (p := ⟨xb, 1, none⟩) hrw.lt hne6).trans h1)), hown6.kept ks (fun b _ hb e => by have e : b = xb := e; have hb : bd1 ≤ b ∨ b < w.heap.size := hb; have := HXB1.out; have := HXW.out; rcases hb with hb | hb <;> omega), hob6, hk.trans k0s (fun _ _ e => e)⟩, by simp only [intOf]; omega⟩
    · obtain rfl : n3 = i := by omega
      clear hlt hi
      have hfm := of_cap hown
      have F1 := Lib.hid (And.intro (show n3 ≤ c4 from by have := hfm.1; rw [hlen] at this; exact this) (And.intro hfm.2 hk))
      clear hfm hown hlen hob
      obtain ⟨a2, rfl⟩ : ∃ a, a = a4 := ⟨_, rfl⟩
      obtain ⟨c2, rfl⟩ : ∃ c, c = c4 := ⟨_, rfl⟩
      have ci2 := (hk.cell (p := ⟨ib, 2, none⟩) CI1.out.2 (fun e => by have := HIX.out; have := HXB1.out; rcases e with e | e <;> simp only at e <;> omega)).trans CI1.out.1
      have hrb := (RB.out.kept F0.out.2.2 (fun e => by have := HRX.out; have := HXB0.out; rcases e with e | e <;> omega)).kept hk (fun e => by have := HRX.out; have := HXB1.out; rcases e with e | e <;> omega)
      have HRB := Lib.hid hrb
      have f0 := hrb.frozen 0
      have f1 := hrb.frozen 1
      have f2 := hrb.frozen 2
      obtain ⟨y0, g0⟩ := hrb.some (o := 0) (by omega)
      obtain ⟨y1, g1⟩ := hrb.some (o := 1) (by omega)
      obtain ⟨y2, g2⟩ := hrb.some (o := 2) (by omega)
      clear hrb hk hrw
      have FIN := Lib.hid (show ∀ W', Kept (fun b => b = rb) wr W' → ImgAt W' (fun _ => True) (.agg #[.slice pa n1 pc, .slice a1 n2 c1, .slice a2 n3 c2]) x ∧ Kept (fun _ => False) w W' from fun W' k => of_fin F0.out F1.out K0.out HXB0.out HXW.out HRX.out HBB.out HBD0.out HBE1.out RP.out HPC.out HN.out k)
      go_wp2_with fail
      obtain ⟨t9, h9⟩ := row_set3 (v0 := .slice pa n1 pc) (v1 := .slice a1 n2 c1) (v2 := .slice a2 n3 c2) HRB.out
      have ks : Kept (fun b => b = rb) wr _ := ((Kept.one_set wr ⟨rb, 0, none⟩ (.slice pa n1 pc)).trans (Kept.one_set _ ⟨rb, 1, none⟩ (.slice a1 n2 c1)) (fun _ _ e => e)).trans (Kept.one_set _ ⟨rb, 2, none⟩ (.slice a2 n3 c2)) (fun _ _ e => e)
      refine bodyPost_ret (results_cell_row (ty := 84) (p := 2) rfl _ _ rb t9 #[.slice pa n1 pc, .slice a1 n2 c1, .slice a2 n3 c2] (0, 0) _ rfl h9 Tryz.underlying84 rfl (by kernel_rfl)) rfl ?_
      exact ⟨_, rfl, (FIN.out _ ks).1, (FIN.out _ ks).2⟩
end Go.Proofs.YtdkcnigghcbnpaaGreat
