/- law18.few: an image of at most seventy of each, of few bytes. -/
import Derived.Test.YtdkcnigghcbnpaaGreatImgE
import Derived.Test.YtdkcnigghcbnpaaGreatFreeB
namespace Go.Proofs.YtdkcnigghcbnpaaGreat
set_option linter.unusedVariables false
set_option linter.unusedSimpArgs false
open Go.RowKit Go.MapKept

def fewP (p : GP) : GP := ⟨p.nm, sub p.code 0 (min p.code.size 5000), p.maps.take 20, p.ctx, p.emit⟩
def fewD (d : GD) : GD := ⟨d.m, sub d.data 0 (min d.data.size 300)⟩
def fewI (x : GI) : GI := ⟨(x.P.take 70).map fewP, (x.D.take 70).map fewD, x.L.take 70⟩
theorem few_take {α β : Type} {f : α → β} {l : List α} {i : Nat} {p : α} (h : l[i]? = some p) : (l.take (i + 1)).map f = (l.take i).map f ++ [f p] := by
  obtain ⟨h1, h2⟩ := List.getElem?_eq_some_iff.1 h
  rw [List.take_succ_eq_append_getElem h1, h2, List.map_append]
  rfl
theorem BytZ.pre {w : World} {Z : Nat → Prop} {a : Option Addr} {k : ByteArray} (h : BytZ w Z a k) {n : Nat} (hn : n ≤ k.size) : BytZ w Z a (sub k 0 n) := by
  have hs : (Go.Proofs.YtdkcnigghcbnpaaGreat.sub k 0 n).size = n := sub_size k 0 n (by omega)
  refine ⟨by rw [hs]; exact h.1.pre hn, fun b o h0 e => h.2 b o (by rw [hs] at h0; omega) e⟩
theorem few_prog {w : World} {Z : Nat → Prop} {nm code : ByteArray} {maps : List ByteArray} {cx em : Int} {ca ma : Option Addr} {cc mc mC mM : Nat} (h1 : BytZ w Z ca code) (h2 : RowZ tStr w Z ma maps) (h3 : min code.size 5000 = mC) (h4 : min maps.length 20 = mM) (h5 : mC ≤ cc) (h6 : mM ≤ mc) :
    PAt w Z (fewP ⟨nm, code, maps, cx, em⟩) [.string nm, .slice ca mC cc, .slice ma mM mc, .int .i64 cx, .int .i64 em] := by
  have hs : (Go.Proofs.YtdkcnigghcbnpaaGreat.sub code 0 (min code.size 5000)).size = mC := by rw [sub_size code 0 _ (by omega), h3]
  have hl : (maps.take 20).length = mM := by rw [List.length_take, Nat.min_comm, h4]
  refine ⟨ca, cc, ma, mc, ?_, ?_, ?_, h1.pre (Nat.min_le_left _ _), h2.take 20⟩
  · show _ = ([_, .slice ca (Go.Proofs.YtdkcnigghcbnpaaGreat.sub code 0 (min code.size 5000)).size cc, .slice ma (maps.take 20).length mc, _, _] : List Value)
    rw [hs, hl]
    rfl
  · show (Go.Proofs.YtdkcnigghcbnpaaGreat.sub code 0 (min code.size 5000)).size ≤ cc
    rw [hs]
    exact h5
  · show (maps.take 20).length ≤ mc
    rw [hl]
    exact h6
theorem few_dump {w : World} {Z : Nat → Prop} {m : TM} {data : ByteArray} {ga : Option Addr} {gc mC : Nat} (h1 : BytZ w Z ga data) (h3 : min data.size 300 = mC) (h5 : mC ≤ gc) :
    DAt w Z (fewD ⟨m, data⟩) [.string m.nm, .int .i64 m.kd, .int .i64 m.ks, .int .i64 m.vs, .int .i64 m.mx, .slice ga mC gc] := by
  have hs : (Go.Proofs.YtdkcnigghcbnpaaGreat.sub data 0 (min data.size 300)).size = mC := by rw [sub_size data 0 _ (by omega), h3]
  refine ⟨ga, gc, ?_, ?_, h1.pre (Nat.min_le_left _ _)⟩
  · show _ = ([_, _, _, _, _, .slice ga (Go.Proofs.YtdkcnigghcbnpaaGreat.sub data 0 (min data.size 300)).size gc] : List Value)
    rw [hs]
    rfl
  · show (Go.Proofs.YtdkcnigghcbnpaaGreat.sub data 0 (min data.size 300)).size ≤ gc
    rw [hs]
    exact h5
theorem own_cap {α : Type} {T : Thing α} {ty : TypeId} {w : World} {Z : Nat → Prop} {a : Option Addr} {n c : Nat} {l : List α} (h : OwnT T ty w Z (.slice a n c) l) : l.length ≤ c ∧ RowZ T w Z a l := by
  obtain ⟨a', c', e, h1, h2⟩ := h.form
  cases e
  exact ⟨h1, h2⟩
theorem few_fin {w wS0 wS1 wr W' : World} {x : GI} {ib xb rb bd0 bd1 n1 n2 n3 M1 M2 M3 c0 c1 lc : Nat} {a0 a1 la : Option Addr}
    (F0 : M1 ≤ c0 ∧ RowZ tProg wS1 (fun b => (bd0 ≤ b ∨ b < w.heap.size) ∧ b < wS1.heap.size) a0 ((x.P.take M1).map fewP) ∧ Kept (fun b => b = xb ∨ bd0 ≤ b) wS0 wS1)
    (F1 : M2 ≤ c1 ∧ RowZ tDump wr (fun b => bd1 ≤ b ∨ b < w.heap.size) a1 ((x.D.take M2).map fewD) ∧ Kept (fun b => b = xb ∨ bd1 ≤ b) wS1 wr)
    (K0 : Kept (fun _ => False) w wS0) (HXB0 : xb < bd0) (HXW : w.heap.size ≤ xb) (HRX : w.heap.size ≤ rb ∧ rb < xb) (HBB : bd0 ≤ bd1) (HBD0 : bd0 ≤ wS0.heap.size) (HBE1 : wS1.heap.size = bd1)
    (RL : RowZ tLink w (fun b => b < w.heap.size) la x.L) (HM1 : M1 = min n1 70 ∧ M1 ≤ n1 ∧ M1 ≤ 70) (HM2 : M2 = min n2 70 ∧ M2 ≤ n2 ∧ M2 ≤ 70) (HM3 : M3 = min n3 70 ∧ M3 ≤ lc) (HN : x.P.length = n1 ∧ x.D.length = n2 ∧ x.L.length = n3) (k : Kept (fun b => b = rb) wr W') :
    ImgAt W' (fun _ => True) (.agg #[.slice a0 M1 c0, .slice a1 M2 c1, .slice la M3 lc]) (fewI x) ∧ Kept (fun _ => False) w W' := by
  have hlP : ((x.P.take 70).map fewP).length = M1 := by rw [List.length_map, List.length_take, HN.1, Nat.min_comm, HM1.1]
  have hlD : ((x.D.take 70).map fewD).length = M2 := by rw [List.length_map, List.length_take, HN.2.1, Nat.min_comm, HM2.1]
  have hlL : (x.L.take 70).length = M3 := by rw [List.length_take, HN.2.2, Nat.min_comm, HM3.1]
  have eP : x.P.take M1 = x.P.take 70 := by rw [HM1.1, ← HN.1, Nat.min_comm, ← List.take_eq_take_min]
  have eD : x.D.take M2 = x.D.take 70 := by rw [HM2.1, ← HN.2.1, Nat.min_comm, ← List.take_eq_take_min]
  have kall : Kept (fun b => b = xb ∨ b = rb ∨ bd0 ≤ b) wS0 W' := ((F0.2.2.mono (S' := fun b => b = xb ∨ b = rb ∨ bd0 ≤ b) (fun b _ e => e.elim .inl (fun e => .inr (.inr e)))).trans F1.2.2 (fun b _ e => e.elim .inl (fun e => .inr (.inr (by omega))))).trans k (fun b _ e => .inr (.inl e))
  refine ⟨⟨a0, c0, a1, c1, la, lc, ?_, ?_, ?_, ?_, ?_, ?_, ?_⟩, K0.trans kall (fun b hb e => by rcases e with e | e | e <;> omega)⟩
  · show _ = Value.agg #[.slice a0 ((x.P.take 70).map fewP).length c0, .slice a1 ((x.D.take 70).map fewD).length c1, .slice la (x.L.take 70).length lc]
    rw [hlP, hlD, hlL]
  · show ((x.P.take 70).map fewP).length ≤ c0
    rw [hlP]; exact F0.1
  · show ((x.D.take 70).map fewD).length ≤ c1
    rw [hlD]; exact F1.1
  · show (x.L.take 70).length ≤ lc
    rw [hlL]; exact HM3.2
  · rw [← show (x.P.take M1).map fewP = (fewI x).P from by rw [eP]; rfl]
    exact ((F0.2.1.kept F1.2.2 (fun b _ hb e => by have h1 := hb.1; have h2 := hb.2; rcases e with e | e <;> rcases h1 with h1 | h1 <;> omega)).kept k (fun b _ hb e => by have e : b = rb := e; have h1 := hb.1; rcases h1 with h1 | h1 <;> omega)).mono (fun _ _ _ => trivial)
  · rw [← show (x.D.take M2).map fewD = (fewI x).D from by rw [eD]; rfl]
    exact (F1.2.1.kept k (fun b _ hb e => by have e : b = rb := e; have hb : bd1 ≤ b ∨ b < w.heap.size := hb; rcases hb with hb | hb <;> omega)).mono (fun _ _ _ => trivial)
  · exact (((RL.keep K0).kept kall (fun b _ hb e => by have hb : b < w.heap.size := hb; rcases e with e | e | e <;> omega)).take 70).mono (fun _ _ _ => trivial)
set_option maxRecDepth 100000 in
set_option maxHeartbeats 4000000 in
theorem few_any {w : World} {Z : Nat → Prop} {v : Value} {x : GI} (h : ImgAt w Z v x) (hs : x.P.length ≤ 9223372036854775807 ∧ x.D.length ≤ 9223372036854775807 ∧ x.L.length ≤ 9223372036854775807) :
    Calls Tryz.prog 33 #[v] w fun e w' => ∃ v', e = .returned v' ∧ ImgAt w' (fun _ => True) v' (fewI x) ∧ Kept (fun _ => False) w w' := by
  obtain ⟨pa, pc, da, dc, la, lc, rfl, h1, h2, h3, z1, z2, z3⟩ := h
  have RP := Lib.hid (z1.mono (Z' := fun b => b < w.heap.size) (fun b hb _ => hb))
  have RDm := Lib.hid (z2.mono (Z' := fun b => b < w.heap.size) (fun b hb _ => hb))
  have RL := Lib.hid (z3.mono (Z' := fun b => b < w.heap.size) (fun b hb _ => hb))
  obtain ⟨n1, hn1⟩ : ∃ n1, x.P.length = n1 := ⟨_, rfl⟩
  obtain ⟨n2, hn2⟩ : ∃ n2, x.D.length = n2 := ⟨_, rfl⟩
  obtain ⟨n3, hn3⟩ : ∃ n3, x.L.length = n3 := ⟨_, rfl⟩
  rw [hn1] at h1
  rw [hn2] at h2
  rw [hn3] at h3
  rw [hn1, hn2, hn3] at hs ⊢
  have HN := Lib.hid (And.intro hn1 (And.intro hn2 hn3))
  obtain ⟨M1, hM1⟩ : ∃ M1, M1 = min n1 70 := ⟨_, rfl⟩
  obtain ⟨M2, hM2⟩ : ∃ M2, M2 = min n2 70 := ⟨_, rfl⟩
  obtain ⟨M3, hM3⟩ : ∃ M3, M3 = min n3 70 := ⟨_, rfl⟩
  have HM1 := Lib.hid (show M1 = min n1 70 ∧ M1 ≤ n1 ∧ M1 ≤ 70 from ⟨hM1, by omega, by omega⟩)
  have HM2 := Lib.hid (show M2 = min n2 70 ∧ M2 ≤ n2 ∧ M2 ≤ 70 from ⟨hM2, by omega, by omega⟩)
  have HM3 := Lib.hid (show M3 = min n3 70 ∧ M3 ≤ lc from ⟨hM3, by omega⟩)
  have hm3 : min (n3 : Int) 70 = (M3 : Int) := by omega
  have hL3 : M3 ≤ lc := by omega
  obtain ⟨ib, hib⟩ : ∃ ib, w.heap.size = ib := ⟨_, rfl⟩
  clear z1 z2 z3 hn1 hn2 hn3 hM1 hM2 hM3 h1 h2 h3
  go_enter Tryz.func33, Tryz.ntmps33
  go_wp2_with fail
  obtain ⟨wS0, hw0⟩ : ∃ wS0, ((w.alloc (.cells #[.slice pa n1 pc, .slice da n2 dc, .slice la n3 lc] 75)).alloc (.cells #[.slice none 0 0, .slice none 0 0, .slice none 0 0] 75)).alloc (.cells #[.slice none 0 0, .slice none 0 0, .slice la M3 lc] 75) = wS0 := ⟨_, rfl⟩
  have q1 := Kept.one_alloc w (.cells #[.slice pa n1 pc, .slice da n2 dc, .slice la n3 lc] 75)
  have q2 := Kept.one_alloc (w.alloc (.cells #[.slice pa n1 pc, .slice da n2 dc, .slice la n3 lc] 75)) (.cells #[.slice none 0 0, .slice none 0 0, .slice none 0 0] 75)
  have q3 := Kept.one_alloc ((w.alloc (.cells #[.slice pa n1 pc, .slice da n2 dc, .slice la n3 lc] 75)).alloc (.cells #[.slice none 0 0, .slice none 0 0, .slice none 0 0] 75)) (.cells #[.slice none 0 0, .slice none 0 0, .slice la M3 lc] 75)
  have z1 : (w.alloc (.cells #[.slice pa n1 pc, .slice da n2 dc, .slice la n3 lc] 75)).heap.size = ib + 1 := by rw [← hib]; simp
  have z2 : ((w.alloc (.cells #[.slice pa n1 pc, .slice da n2 dc, .slice la n3 lc] 75)).alloc (.cells #[.slice none 0 0, .slice none 0 0, .slice none 0 0] 75)).heap.size = ib + 1 + 1 := by rw [← hib]; simp
  have i1 := fun i => World.cell?_alloc_new w #[.slice pa n1 pc, .slice da n2 dc, .slice la n3 lc] 75 i
  have i2 : RowAt _ _ 3 := RowAt.new (w.alloc (.cells #[.slice pa n1 pc, .slice da n2 dc, .slice la n3 lc] 75)) #[.slice none 0 0, .slice none 0 0, .slice none 0 0] 75
  have i3 : RowAt _ _ 3 := RowAt.new ((w.alloc (.cells #[.slice pa n1 pc, .slice da n2 dc, .slice la n3 lc] 75)).alloc (.cells #[.slice none 0 0, .slice none 0 0, .slice none 0 0] 75)) #[.slice none 0 0, .slice none 0 0, .slice la M3 lc] 75
  have i4 := fun i => World.cell?_alloc_new ((w.alloc (.cells #[.slice pa n1 pc, .slice da n2 dc, .slice la n3 lc] 75)).alloc (.cells #[.slice none 0 0, .slice none 0 0, .slice none 0 0] 75)) #[.slice none 0 0, .slice none 0 0, .slice la M3 lc] 75 i
  rw [hib] at i1
  rw [z1] at i2
  rw [z2] at i3 i4
  have i2 := i2.kept q3 (fun e => e)
  have q23 := q2.trans q3 (fun _ _ e => e)
  have K0 := Lib.hid (q1.trans q23 (fun _ _ e => e))
  have j : ∀ i, _ := fun i => (q23.cell (p := ⟨ib, i, none⟩) (by rw [z1]; exact Nat.lt_succ_self ib) (fun e => e)).trans (i1 i)
  rw [hw0] at i2 i3 i4 j K0 ⊢
  obtain ⟨rb, hrb⟩ : ∃ rb, ib + 1 = rb := ⟨_, rfl⟩
  obtain ⟨xb, hxb⟩ : ∃ xb, rb + 1 = xb := ⟨_, rfl⟩
  rw [hrb] at i2 i3 i4 ⊢
  rw [hxb] at i3 i4 ⊢
  obtain ⟨bd0, hbd⟩ : ∃ bd0, wS0.heap.size = bd0 := ⟨_, rfl⟩
  have hlt := i3.lt
  have HXB0 := Lib.hid (show xb < bd0 from by omega)
  have HBD0 := Lib.hid (show bd0 ≤ wS0.heap.size from Nat.le_of_eq hbd.symm)
  have HIX := Lib.hid (show ib < xb from by omega)
  have HRX := Lib.hid (show w.heap.size ≤ rb ∧ rb < xb from by omega)
  have HXW := Lib.hid (show w.heap.size ≤ xb from by omega)
  have RB := Lib.hid i2
  have S0 := Lib.hid (show RowAt wS0 xb 3 ∧ wS0.cell? ⟨xb, 0, none⟩ = some (.slice none 0 0) ∧ wS0.cell? ⟨xb, 1, none⟩ = some (.slice none 0 0) ∧ wS0.cell? ⟨xb, 2, none⟩ = some (.slice la M3 lc) from ⟨i3, i4 0, i4 1, i4 2⟩)
  have CI := Lib.hid (show wS0.cell? ⟨ib, 0, none⟩ = some (.slice pa n1 pc) ∧ wS0.cell? ⟨ib, 1, none⟩ = some (.slice da n2 dc) ∧ wS0.cell? ⟨ib, 2, none⟩ = some (.slice la n3 lc) ∧ ib < wS0.heap.size from ⟨j 0, j 1, j 2, by omega⟩)
  clear q1 q2 q3 z1 z2 i1 i2 i3 i4 q23 j hw0 hrb hxb hbd hlt hib hm3 hL3
  go_loopw [4, 5] (fun s4 s5 wr => RowKit.Hid  (∃ (i : Nat) (a4 : Option Addr) (c4 : Nat), i ≤ M1 ∧ s4 = .int .i64 (i : Int) ∧ RowAt wr xb 3 ∧ wr.cell? ⟨xb, 0, none⟩ = some (.slice a4 i c4) ∧ wr.cell? ⟨xb, 1, none⟩ = some (.slice none 0 0) ∧ wr.cell? ⟨xb, 2, none⟩ = some (.slice la M3 lc) ∧ OwnT tProg 99 wr (fun b => bd0 ≤ b ∨ b < w.heap.size) (.slice a4 i c4) ((x.P.take i).map fewP) ∧ (∀ b, (Value.slice a4 i c4).ownBlock = some b → bd0 ≤ b) ∧ Kept (fun b => b = xb ∨ bd0 ≤ b) wS0 wr)) (fun s4 _ _ => M1 - (intOf s4).toNat)
  case atStart => exact Lib.hid ⟨0, none, 0, Nat.zero_le _, rfl, S0.out.1, S0.out.2.1, S0.out.2.2.1, S0.out.2.2.2, OwnT.nil, (fun b e => by cases e), Kept.refl _ _⟩
  case' round =>
    obtain ⟨i, a4, c4, hi, rfl, hrw, hck, h1, h2, hown, hob, hk⟩ := hrel.out
    have hlen : ((x.P.take i).map fewP).length = i := by rw [List.length_map, List.length_take, HN.out.1]; have := HM1.out; omega
  by_cases hlt : i < M1
  · have hin : (i : Int) < (M1 : Int) := by omega
    have hin1 : (i : Int) < (n1 : Int) := by have := HM1.out.2.1; omega
    have hin2 : (i : Int) < 70 := by have := HM1.out.2.2; omega
    have c0 := (hk.cell (p := ⟨ib, 0, none⟩) CI.out.2.2.2 (fun e => by have := HIX.out; have := HXB0.out; rcases e with e | e <;> simp only at e <;> omega)).trans CI.out.1
    obtain ⟨p, hp⟩ : ∃ p, x.P[i]? = some p := ⟨_, List.getElem?_eq_getElem (by rw [HN.out.1]; omega)⟩
    have hrow : RowZ tProg wr (fun b => b < w.heap.size) pa x.P := (RP.out.keep K0.out).kept hk (fun b _ hz e => by have hz : b < w.heap.size := hz; have := HXW.out; have := HXB0.out; rcases e with e | e <;> omega)
    obtain ⟨b, o, ca, cc, ma, mc, rfl, hb, -, hcc, hmc, hcz, hmz, d0, d1, d2, d3, d4⟩ := hrow.prog hp
    have HP := Lib.hid hp
    obtain ⟨nm, code, maps, cx, em⟩ := p
    simp only at hcc hmc hcz hmz d0 d1 d2 d3 d4
    obtain ⟨nc, hnc⟩ : ∃ nc, code.size = nc := ⟨_, rfl⟩
    obtain ⟨nm', hnm⟩ : ∃ nm', maps.length = nm' := ⟨_, rfl⟩
    rw [hnc] at d1 hcc
    rw [hnm] at d2 hmc
    obtain ⟨mC, hmC⟩ : ∃ mC, min nc 5000 = mC := ⟨_, rfl⟩
    obtain ⟨mM, hmM⟩ : ∃ mM, min nm' 20 = mM := ⟨_, rfl⟩
    have hat : PAt wr (fun b => b < w.heap.size) (fewP ⟨nm, code, maps, cx, em⟩) [.string nm, .slice ca mC cc, .slice ma mM mc, .int .i64 cx, .int .i64 em] := few_prog hcz hmz (by rw [hnc]; exact hmC) (by rw [hnm]; exact hmM) (by omega) (by omega)
    have HAT0 := Lib.hid hat
    have hmC1 : min (nc : Int) 5000 = (mC : Int) := by omega
    have hmM1 : min (nm' : Int) 20 = (mM : Int) := by omega
    have hC1 : mC ≤ cc := by omega
    have hM1 : mM ≤ mc := by omega
    clear hrow hcz hmz hat hnc hnm hmC hmM hcc hmc
    go_upto_region 8 with fail
    obtain ⟨wA, hwA⟩ : ∃ wA, wr.alloc (.cells #[.string nm, .slice ca mC cc, .slice ma mM mc, .int .i64 cx, .int .i64 em] 99) = wA := ⟨_, rfl⟩
    have kA : Kept (fun _ => False) wr wA := by rw [← hwA]; exact Kept.one_alloc _ _
    obtain ⟨pb, hpb⟩ : ∃ pb, wr.heap.size = pb := ⟨_, rfl⟩
    have hcel := fun i => World.cell?_alloc_new wr #[.string nm, .slice ca mC cc, .slice ma mM mc, .int .i64 cx, .int .i64 em] 99 i
    rw [hwA, hpb] at hcel
    have e0 := hcel 0
    have e1 := hcel 1
    have e2 := hcel 2
    have e3 := hcel 3
    have e4 := hcel 4
    simp at e0 e1 e2 e3 e4
    rw [hpb, hwA]
    have HAT := Lib.hid (tProg.kept HAT0.out kA (fun _ _ _ e => e))
    clear hwA hpb hcel c0 d0 d1 d2 d3 d4 hp
    rename World => wr
    have hck := (kA.cell (p := ⟨xb, 0, none⟩) hrw.lt (fun e => e)).trans hck
    have h1 := (kA.cell (p := ⟨xb, 1, none⟩) hrw.lt (fun e => e)).trans h1
    have h2 := (kA.cell (p := ⟨xb, 2, none⟩) hrw.lt (fun e => e)).trans h2
    have hrw := hrw.kept kA (fun e => e)
    have hown := hown.keep kA
    have hk := hk.trans kA (fun _ _ e => e.elim)
    have R := Lib.hid (And.intro hown (And.intro hk (And.intro hlen (And.intro hrw hob))))
    obtain ⟨css, ho, hcl, hat, hz⟩ := hown
    have hx1 : tProg.at_ wr (fun b => (bd0 ≤ b ∨ b < w.heap.size) ∧ (Value.slice a4 i c4).ownBlock ≠ some b) ((fewP ⟨nm, code, maps, cx, em⟩)) [.string nm, .slice ca mC cc, .slice ma mM mc, .int .i64 cx, .int .i64 em] := tProg.mono HAT.out (fun b _ hb => ⟨.inr hb, fun e => by have := hob b e; have hb : b < w.heap.size := hb; have := HXW.out; have := HXB0.out; omega⟩)
    rw [hlen] at ho hcl
    have kq := Kept.one_alloc wr (.cells #[.string nm, .slice ca mC cc, .slice ma mM mc, .int .i64 cx, .int .i64 em] 99)
    have HROW := Lib.hid (ownsRow_kept ho kq (fun _ _ e => e))
    have X := Lib.hid (And.intro hcl (And.intro hat (And.intro hz hx1)))
    have HLL := Lib.hid (show i + 1 ≤ 100 from by omega)
    clear ho hcl hat hz hx1 kq hk hlen hrw hob kA
    go_wp2_with (at_builtin; refine wpList_append_mine rfl _ _ progE rfl rfl HROW.out (some ⟨wr.heap.size, 0, none⟩) 1 1 [.string nm, .slice ca mC cc, .slice ma mM mc, .int .i64 cx, .int .i64 em] rfl rfl (holds_block (heap_alloc_new wr _)) (by simp [Value.oneCell']) (Nat.le_trans HLL.out (by decide)) (Nat.le_trans (Nat.mul_le_mul_right 80 HLL.out) (by decide)) ?_; intro a3 c3 w6 own6 k6 b6; have hne6 : ¬ (Value.slice a4 i c4).ownBlock = some xb := (fun e => by have := R.out.2.2.2.2 xb e; have := HXB0.out; omega); have hc6 : w6.cell? ⟨xb, 0, none⟩ = some (.slice a4 i c4) := ((k6.cell (p := ⟨xb, 0, none⟩) (Nat.lt_of_lt_of_le R.out.2.2.2.1.lt (Kept.one_alloc wr _).size) hne6).trans ((Kept.one_alloc wr _).cell (p := ⟨xb, 0, none⟩) R.out.2.2.2.1.lt (fun e => e))).trans hck; have hf6 : w6.frozen? ⟨xb, 0, none⟩ = false := ((R.out.2.2.2.1.kept (Kept.one_alloc wr _) (fun e => e)).kept k6 hne6).frozen 0; have HNE6 := Lib.hid hne6; have O6 := Lib.hid (And.intro own6 (And.intro k6 b6)); clear own6 k6 b6 hne6)
    obtain ⟨hcl, hat, hz, hx1⟩ := X.out
    obtain ⟨hown, hk, hlen, hrw, hob⟩ := R.out
    have hne6 := HNE6.out
    have kq := Kept.one_alloc wr (.cells #[.string nm, .slice ca mC cc, .slice ma mM mc, .int .i64 cx, .int .i64 em] 99)
    have hsn := OwnT.snoc (T := tProg) (l := (x.P.take i).map fewP) (x := (fewP ⟨nm, code, maps, cx, em⟩)) (css := css) (Z := fun b => bd0 ≤ b ∨ b < w.heap.size) (by rw [hlen]; exact HROW.out) (by rw [hlen]; exact hcl) (fun i x cs h1 h2 => tProg.kept (hat i x cs h1 h2) kq (fun _ _ _ e => e)) hz (tProg.kept hx1 kq (fun _ _ _ e => e)) (by rw [hlen]; exact O6.out.1) O6.out.2.1 O6.out.2.2
    have hbd : bd0 ≤ wr.heap.size := Nat.le_trans HBD0.out hk.size
    have hzq := kq.size
    have hown6 : OwnT tProg 99 w6 (fun b => bd0 ≤ b ∨ b < w.heap.size) (.slice a3 (i + 1) c3) ((x.P.take (i + 1)).map fewP) := by
      rw [show (x.P.take (i + 1)).map fewP = (x.P.take i).map fewP ++ [(fewP ⟨nm, code, maps, cx, em⟩)] from few_take HP.out]
      exact hsn.mono (fun b _ hb => hb.elim id (fun e => .inl (by omega)))
    have hob6 : ∀ b, (Value.slice a3 (i + 1) c3).ownBlock = some b → bd0 ≤ b := fun b e => by
      rcases O6.out.2.2 with ho | ho
      · exact hob b (ho.symm.trans e)
      · have := Option.some.inj (ho.symm.trans e)
        omega
    have k06 : Kept (fun b => (Value.slice a4 i c4).ownBlock = some b) wr w6 := (kq.mono (S' := fun b => (Value.slice a4 i c4).ownBlock = some b) (fun _ _ e => e.elim)).trans O6.out.2.1 (fun _ _ e => e)
    have hrw6 := hrw.kept k06 hne6
    have ks := Kept.one_set w6 ⟨xb, 0, none⟩ (.slice a3 (i + 1) c3)
    have k0s : Kept (fun b => b = xb ∨ bd0 ≤ b) wr _ := (k06.mono (S' := fun b => b = xb ∨ bd0 ≤ b) (fun b _ e => .inr (hob b e))).trans ks (fun _ _ e => .inl e)
    refine ⟨Lib.hid ⟨i + 1, a3, c3, hlt, rfl, hrw6.setCell _ _, cell_set_same hrw6 (by omega) _, (show (w6.setCell ⟨xb, 0, none⟩ (.slice a3 (i + 1) c3)).cell? ⟨xb, 1, none⟩ = some (.slice none 0 0) from (World.cell?_setCell_other _ _ _ _ (by simp)).trans ((k06.cell (p := ⟨xb, 1, none⟩) hrw.lt hne6).trans h1)), (show (w6.setCell ⟨xb, 0, none⟩ (.slice a3 (i + 1) c3)).cell? ⟨xb, 2, none⟩ = some (.slice la M3 lc) from (World.cell?_setCell_other _ _ _ _ (by simp)).trans ((k06.cell (p := ⟨xb, 2, none⟩) hrw.lt hne6).trans h2)), hown6.kept ks (fun b _ hb e => by have e : b = xb := e; have hb : bd0 ≤ b ∨ b < w.heap.size := hb; have := HXB0.out; have := HXW.out; rcases hb with hb | hb <;> omega), hob6, hk.trans k0s (fun _ _ e => e)⟩, by simp only [intOf]; omega⟩
  · obtain rfl : M1 = i := by omega
    clear hlt hi
    have hfm := own_cap hown
    have F0 := Lib.hid (And.intro (show M1 ≤ c4 from by have := hfm.1; rw [hlen] at this; exact this) (And.intro (hfm.2.mono (Z' := fun b => (bd0 ≤ b ∨ b < w.heap.size) ∧ b < wr.heap.size) (fun b hb hz => ⟨hz, hb⟩)) hk))
    clear hfm hown hlen hob
    obtain ⟨a0, rfl⟩ : ∃ a, a = a4 := ⟨_, rfl⟩
    obtain ⟨c0, rfl⟩ : ∃ c, c = c4 := ⟨_, rfl⟩
    have S1 := Lib.hid (show RowAt wr xb 3 ∧ wr.cell? ⟨xb, 0, none⟩ = some (.slice a0 M1 c0) ∧ wr.cell? ⟨xb, 1, none⟩ = some (.slice none 0 0) ∧ wr.cell? ⟨xb, 2, none⟩ = some (.slice la M3 lc) from ⟨hrw, hck, h1, h2⟩)
    have ci0 := (hk.cell (p := ⟨ib, 0, none⟩) CI.out.2.2.2 (fun e => by have := HIX.out; have := HXB0.out; rcases e with e | e <;> simp only at e <;> omega)).trans CI.out.1
    have ci1 := (hk.cell (p := ⟨ib, 1, none⟩) CI.out.2.2.2 (fun e => by have := HIX.out; have := HXB0.out; rcases e with e | e <;> simp only at e <;> omega)).trans CI.out.2.1
    have CI1 := Lib.hid (And.intro ci1 (Nat.lt_of_lt_of_le CI.out.2.2.2 hk.size))
    clear hck h1 h2 hrw hk ci1
    obtain ⟨wS1, hw1⟩ : ∃ w', wr = w' := ⟨_, rfl⟩
    rw [hw1] at S1 F0 ci0 CI1 ⊢
    clear hw1
    obtain ⟨bd1, hbd⟩ : ∃ bd', wS1.heap.size = bd' := ⟨_, rfl⟩
    have HXB1 := Lib.hid (show xb < bd1 from by rw [← hbd]; exact S1.out.1.lt)
    have HBD1 := Lib.hid (show bd1 ≤ wS1.heap.size from Nat.le_of_eq hbd.symm)
    have HBE1 := Lib.hid hbd
    have HBB := Lib.hid (show bd0 ≤ bd1 from by have := F0.out.2.2.size; have := HBD0.out; omega)
    clear hbd
    have hstop := HM1.out.1
    by_cases h70 : n1 ≤ 70
    · obtain rfl : M1 = n1 := by omega
      clear hstop h70
      go_wp2_with fail
      clear ci0
      go_loopw [6, 7] (fun s6 s7 wr => RowKit.Hid  (∃ (i : Nat) (a4 : Option Addr) (c4 : Nat), i ≤ M2 ∧ s6 = .int .i64 (i : Int) ∧ RowAt wr xb 3 ∧ wr.cell? ⟨xb, 1, none⟩ = some (.slice a4 i c4) ∧ wr.cell? ⟨xb, 0, none⟩ = some (.slice a0 M1 c0) ∧ wr.cell? ⟨xb, 2, none⟩ = some (.slice la M3 lc) ∧ OwnT tDump 101 wr (fun b => bd1 ≤ b ∨ b < w.heap.size) (.slice a4 i c4) ((x.D.take i).map fewD) ∧ (∀ b, (Value.slice a4 i c4).ownBlock = some b → bd1 ≤ b) ∧ Kept (fun b => b = xb ∨ bd1 ≤ b) wS1 wr)) (fun s6 _ _ => M2 - (intOf s6).toNat)
      case atStart => exact Lib.hid ⟨0, none, 0, Nat.zero_le _, rfl, S1.out.1, S1.out.2.2.1, S1.out.2.1, S1.out.2.2.2, OwnT.nil, (fun b e => by cases e), Kept.refl _ _⟩
      case' round =>
        obtain ⟨i, a4, c4, hi, rfl, hrw, hck, h0, h2, hown, hob, hk⟩ := hrel.out
        have hlen : ((x.D.take i).map fewD).length = i := by rw [List.length_map, List.length_take, HN.out.2.1]; have := HM2.out; omega
      by_cases hlt : i < M2
      · have hin : (i : Int) < (M2 : Int) := by omega
        have hin1 : (i : Int) < (n2 : Int) := by have := HM2.out.2.1; omega
        have hin2 : (i : Int) < 70 := by have := HM2.out.2.2; omega
        have c0 := (hk.cell (p := ⟨ib, 1, none⟩) CI1.out.2 (fun e => by have := HIX.out; have := HXB1.out; rcases e with e | e <;> simp only at e <;> omega)).trans CI1.out.1
        obtain ⟨p, hp⟩ : ∃ p, x.D[i]? = some p := ⟨_, List.getElem?_eq_getElem (by rw [HN.out.2.1]; omega)⟩
        have hrow : RowZ tDump wr (fun b => b < w.heap.size) da x.D := (RDm.out.keep K0.out).kept (F0.out.2.2.trans hk (fun b hb e => e.elim .inl (fun e => .inr (by have := HBB.out; omega)))) (fun b _ hz e => by have hz : b < w.heap.size := hz; have := HXW.out; have := HXB0.out; rcases e with e | e <;> omega)
        obtain ⟨b, o, ga, gc, rfl, hb, -, hgc, hgz, d0, d1, d2, d3, d4, d5⟩ := hrow.dump hp
        have HP := Lib.hid hp
        obtain ⟨⟨nm, kd, kz, vz, mx⟩, data⟩ := p
        simp only at hgc hgz d0 d1 d2 d3 d4 d5
        obtain ⟨nc, hnc⟩ : ∃ nc, data.size = nc := ⟨_, rfl⟩
        rw [hnc] at d5 hgc
        obtain ⟨mC, hmC⟩ : ∃ mC, min nc 300 = mC := ⟨_, rfl⟩
        have hat : DAt wr (fun b => b < w.heap.size) (fewD ⟨⟨nm, kd, kz, vz, mx⟩, data⟩) [.string nm, .int .i64 kd, .int .i64 kz, .int .i64 vz, .int .i64 mx, .slice ga mC gc] := few_dump hgz (by rw [hnc]; exact hmC) (by omega)
        have HAT0 := Lib.hid hat
        have hmC1 : min (nc : Int) 300 = (mC : Int) := by omega
        have hC1 : mC ≤ gc := by omega
        clear hrow hgz hat hnc hmC hgc
        go_upto_region 14 with fail
        obtain ⟨wA, hwA⟩ : ∃ wA, wr.alloc (.cells #[.string nm, .int .i64 kd, .int .i64 kz, .int .i64 vz, .int .i64 mx, .slice ga mC gc] 101) = wA := ⟨_, rfl⟩
        have kA : Kept (fun _ => False) wr wA := by rw [← hwA]; exact Kept.one_alloc _ _
        obtain ⟨pb, hpb⟩ : ∃ pb, wr.heap.size = pb := ⟨_, rfl⟩
        have hcel := fun i => World.cell?_alloc_new wr #[.string nm, .int .i64 kd, .int .i64 kz, .int .i64 vz, .int .i64 mx, .slice ga mC gc] 101 i
        rw [hwA, hpb] at hcel
        have e0 := hcel 0
        have e1 := hcel 1
        have e2 := hcel 2
        have e3 := hcel 3
        have e4 := hcel 4
        have e5 := hcel 5
        simp at e0 e1 e2 e3 e4 e5
        rw [hpb, hwA]
        have HAT := Lib.hid (tDump.kept HAT0.out kA (fun _ _ _ e => e))
        clear hwA hpb hcel c0 d0 d1 d2 d3 d4 d5 hp
        rename World => wr
        have hck := (kA.cell (p := ⟨xb, 1, none⟩) hrw.lt (fun e => e)).trans hck
        have h0 := (kA.cell (p := ⟨xb, 0, none⟩) hrw.lt (fun e => e)).trans h0
        have h2 := (kA.cell (p := ⟨xb, 2, none⟩) hrw.lt (fun e => e)).trans h2
        have hrw := hrw.kept kA (fun e => e)
        have hown := hown.keep kA
        have hk := hk.trans kA (fun _ _ e => e.elim)
        have R := Lib.hid (And.intro hown (And.intro hk (And.intro hlen (And.intro hrw hob))))
        obtain ⟨css, ho, hcl, hat, hz⟩ := hown
        have hx1 : tDump.at_ wr (fun b => (bd1 ≤ b ∨ b < w.heap.size) ∧ (Value.slice a4 i c4).ownBlock ≠ some b) ((fewD ⟨⟨nm, kd, kz, vz, mx⟩, data⟩)) [.string nm, .int .i64 kd, .int .i64 kz, .int .i64 vz, .int .i64 mx, .slice ga mC gc] := tDump.mono HAT.out (fun b _ hb => ⟨.inr hb, fun e => by have := hob b e; have hb : b < w.heap.size := hb; have := HXW.out; have := HXB1.out; omega⟩)
        rw [hlen] at ho hcl
        have kq := Kept.one_alloc wr (.cells #[.string nm, .int .i64 kd, .int .i64 kz, .int .i64 vz, .int .i64 mx, .slice ga mC gc] 101)
        have HROW := Lib.hid (ownsRow_kept ho kq (fun _ _ e => e))
        have X := Lib.hid (And.intro hcl (And.intro hat (And.intro hz hx1)))
        have HLL := Lib.hid (show i + 1 ≤ 100 from by omega)
        clear ho hcl hat hz hx1 kq hk hlen hrw hob kA
        go_wp2_with (at_builtin; refine wpList_append_mine rfl _ _ dumpE rfl rfl HROW.out (some ⟨wr.heap.size, 0, none⟩) 1 1 [.string nm, .int .i64 kd, .int .i64 kz, .int .i64 vz, .int .i64 mx, .slice ga mC gc] rfl rfl (holds_block (heap_alloc_new wr _)) (by simp [Value.oneCell']) (Nat.le_trans HLL.out (by decide)) (Nat.le_trans (Nat.mul_le_mul_right 72 HLL.out) (by decide)) ?_; intro a3 c3 w6 own6 k6 b6; have hne6 : ¬ (Value.slice a4 i c4).ownBlock = some xb := (fun e => by have := R.out.2.2.2.2 xb e; have := HXB1.out; omega); have hc6 : w6.cell? ⟨xb, 1, none⟩ = some (.slice a4 i c4) := ((k6.cell (p := ⟨xb, 1, none⟩) (Nat.lt_of_lt_of_le R.out.2.2.2.1.lt (Kept.one_alloc wr _).size) hne6).trans ((Kept.one_alloc wr _).cell (p := ⟨xb, 1, none⟩) R.out.2.2.2.1.lt (fun e => e))).trans hck; have hf6 : w6.frozen? ⟨xb, 1, none⟩ = false := ((R.out.2.2.2.1.kept (Kept.one_alloc wr _) (fun e => e)).kept k6 hne6).frozen 1; have HNE6 := Lib.hid hne6; have O6 := Lib.hid (And.intro own6 (And.intro k6 b6)); clear own6 k6 b6 hne6)
        obtain ⟨hcl, hat, hz, hx1⟩ := X.out
        obtain ⟨hown, hk, hlen, hrw, hob⟩ := R.out
        have hne6 := HNE6.out
        have kq := Kept.one_alloc wr (.cells #[.string nm, .int .i64 kd, .int .i64 kz, .int .i64 vz, .int .i64 mx, .slice ga mC gc] 101)
        have hsn := OwnT.snoc (T := tDump) (l := (x.D.take i).map fewD) (x := (fewD ⟨⟨nm, kd, kz, vz, mx⟩, data⟩)) (css := css) (Z := fun b => bd1 ≤ b ∨ b < w.heap.size) (by rw [hlen]; exact HROW.out) (by rw [hlen]; exact hcl) (fun i x cs h1 h2 => tDump.kept (hat i x cs h1 h2) kq (fun _ _ _ e => e)) hz (tDump.kept hx1 kq (fun _ _ _ e => e)) (by rw [hlen]; exact O6.out.1) O6.out.2.1 O6.out.2.2
        have hbd : bd1 ≤ wr.heap.size := Nat.le_trans HBD1.out hk.size
        have hzq := kq.size
        have hown6 : OwnT tDump 101 w6 (fun b => bd1 ≤ b ∨ b < w.heap.size) (.slice a3 (i + 1) c3) ((x.D.take (i + 1)).map fewD) := by
          rw [show (x.D.take (i + 1)).map fewD = (x.D.take i).map fewD ++ [(fewD ⟨⟨nm, kd, kz, vz, mx⟩, data⟩)] from few_take HP.out]
          exact hsn.mono (fun b _ hb => hb.elim id (fun e => .inl (by omega)))
        have hob6 : ∀ b, (Value.slice a3 (i + 1) c3).ownBlock = some b → bd1 ≤ b := fun b e => by
          rcases O6.out.2.2 with ho | ho
          · exact hob b (ho.symm.trans e)
          · have := Option.some.inj (ho.symm.trans e)
            omega
        have k06 : Kept (fun b => (Value.slice a4 i c4).ownBlock = some b) wr w6 := (kq.mono (S' := fun b => (Value.slice a4 i c4).ownBlock = some b) (fun _ _ e => e.elim)).trans O6.out.2.1 (fun _ _ e => e)
        have hrw6 := hrw.kept k06 hne6
        have ks := Kept.one_set w6 ⟨xb, 1, none⟩ (.slice a3 (i + 1) c3)
        have k0s : Kept (fun b => b = xb ∨ bd1 ≤ b) wr _ := (k06.mono (S' := fun b => b = xb ∨ bd1 ≤ b) (fun b _ e => .inr (hob b e))).trans ks (fun _ _ e => .inl e)
        refine ⟨Lib.hid ⟨i + 1, a3, c3, hlt, rfl, hrw6.setCell _ _, cell_set_same hrw6 (by omega) _, (show (w6.setCell ⟨xb, 1, none⟩ (.slice a3 (i + 1) c3)).cell? ⟨xb, 0, none⟩ = some (.slice a0 M1 c0) from (World.cell?_setCell_other _ _ _ _ (by simp)).trans ((k06.cell (p := ⟨xb, 0, none⟩) hrw.lt hne6).trans h0)), (show (w6.setCell ⟨xb, 1, none⟩ (.slice a3 (i + 1) c3)).cell? ⟨xb, 2, none⟩ = some (.slice la M3 lc) from (World.cell?_setCell_other _ _ _ _ (by simp)).trans ((k06.cell (p := ⟨xb, 2, none⟩) hrw.lt hne6).trans h2)), hown6.kept ks (fun b _ hb e => by have e : b = xb := e; have hb : bd1 ≤ b ∨ b < w.heap.size := hb; have := HXB1.out; have := HXW.out; rcases hb with hb | hb <;> omega), hob6, hk.trans k0s (fun _ _ e => e)⟩, by simp only [intOf]; omega⟩
      · obtain rfl : M2 = i := by omega
        clear hlt hi
        have hfm := own_cap hown
        have F1 := Lib.hid (And.intro (show M2 ≤ c4 from by have := hfm.1; rw [hlen] at this; exact this) (And.intro hfm.2 hk))
        clear hfm hown hlen hob
        obtain ⟨a1, rfl⟩ : ∃ a, a = a4 := ⟨_, rfl⟩
        obtain ⟨c1, rfl⟩ : ∃ c, c = c4 := ⟨_, rfl⟩
        have ci1 := (hk.cell (p := ⟨ib, 1, none⟩) CI1.out.2 (fun e => by have := HIX.out; have := HXB1.out; rcases e with e | e <;> simp only at e <;> omega)).trans CI1.out.1
        have hrb := (RB.out.kept F0.out.2.2 (fun e => by have := HRX.out; have := HXB0.out; rcases e with e | e <;> omega)).kept hk (fun e => by have := HRX.out; have := HXB1.out; rcases e with e | e <;> omega)
        have HRB := Lib.hid hrb
        have f0 := hrb.frozen 0
        have f1 := hrb.frozen 1
        have f2 := hrb.frozen 2
        obtain ⟨y0, g0⟩ := hrb.some (o := 0) (by omega)
        obtain ⟨y1, g1⟩ := hrb.some (o := 1) (by omega)
        obtain ⟨y2, g2⟩ := hrb.some (o := 2) (by omega)
        clear hrb hk hrw
        have hstop := HM2.out.1
        have FIN := Lib.hid (show ∀ W', Kept (fun b => b = rb) wr W' → ImgAt W' (fun _ => True) (.agg #[.slice a0 M1 c0, .slice a1 M2 c1, .slice la M3 lc]) (fewI x) ∧ Kept (fun _ => False) w W' from fun W' k => few_fin (ib := ib) F0.out F1.out K0.out HXB0.out HXW.out HRX.out HBB.out HBD0.out HBE1.out RL.out HM1.out HM2.out HM3.out HN.out k)
        by_cases h70' : n2 ≤ 70
        · obtain rfl : M2 = n2 := by omega
          clear hstop h70'
          go_wp2_with fail
          obtain ⟨t9, h9⟩ := row_set3 (v0 := .slice a0 M1 c0) (v1 := .slice a1 M2 c1) (v2 := .slice la M3 lc) HRB.out
          have ks : Kept (fun b => b = rb) wr _ := ((Kept.one_set wr ⟨rb, 0, none⟩ (.slice a0 M1 c0)).trans (Kept.one_set _ ⟨rb, 1, none⟩ (.slice a1 M2 c1)) (fun _ _ e => e)).trans (Kept.one_set _ ⟨rb, 2, none⟩ (.slice la M3 lc)) (fun _ _ e => e)
          refine bodyPost_ret (results_cell_row (ty := 75) (p := 2) rfl _ _ rb t9 #[.slice a0 M1 c0, .slice a1 M2 c1, .slice la M3 lc] (0, 0) _ rfl h9 Tryz.underlying75 rfl (by kernel_rfl)) rfl ?_
          exact ⟨_, rfl, (FIN.out _ ks).1, (FIN.out _ ks).2⟩
        · have hgt' : (M2 : Int) < (n2 : Int) := by omega
          have hge' : ¬ (M2 : Int) < 70 := by omega
          clear hstop h70'
          go_wp2_with fail
          obtain ⟨t9, h9⟩ := row_set3 (v0 := .slice a0 M1 c0) (v1 := .slice a1 M2 c1) (v2 := .slice la M3 lc) HRB.out
          have ks : Kept (fun b => b = rb) wr _ := ((Kept.one_set wr ⟨rb, 0, none⟩ (.slice a0 M1 c0)).trans (Kept.one_set _ ⟨rb, 1, none⟩ (.slice a1 M2 c1)) (fun _ _ e => e)).trans (Kept.one_set _ ⟨rb, 2, none⟩ (.slice la M3 lc)) (fun _ _ e => e)
          refine bodyPost_ret (results_cell_row (ty := 75) (p := 2) rfl _ _ rb t9 #[.slice a0 M1 c0, .slice a1 M2 c1, .slice la M3 lc] (0, 0) _ rfl h9 Tryz.underlying75 rfl (by kernel_rfl)) rfl ?_
          exact ⟨_, rfl, (FIN.out _ ks).1, (FIN.out _ ks).2⟩
    · have hgt : (M1 : Int) < (n1 : Int) := by omega
      have hge : ¬ (M1 : Int) < 70 := by omega
      clear hstop h70
      go_wp2_with fail
      clear ci0
      go_loopw [6, 7] (fun s6 s7 wr => RowKit.Hid  (∃ (i : Nat) (a4 : Option Addr) (c4 : Nat), i ≤ M2 ∧ s6 = .int .i64 (i : Int) ∧ RowAt wr xb 3 ∧ wr.cell? ⟨xb, 1, none⟩ = some (.slice a4 i c4) ∧ wr.cell? ⟨xb, 0, none⟩ = some (.slice a0 M1 c0) ∧ wr.cell? ⟨xb, 2, none⟩ = some (.slice la M3 lc) ∧ OwnT tDump 101 wr (fun b => bd1 ≤ b ∨ b < w.heap.size) (.slice a4 i c4) ((x.D.take i).map fewD) ∧ (∀ b, (Value.slice a4 i c4).ownBlock = some b → bd1 ≤ b) ∧ Kept (fun b => b = xb ∨ bd1 ≤ b) wS1 wr)) (fun s6 _ _ => M2 - (intOf s6).toNat)
      case atStart => exact Lib.hid ⟨0, none, 0, Nat.zero_le _, rfl, S1.out.1, S1.out.2.2.1, S1.out.2.1, S1.out.2.2.2, OwnT.nil, (fun b e => by cases e), Kept.refl _ _⟩
      case' round =>
        obtain ⟨i, a4, c4, hi, rfl, hrw, hck, h0, h2, hown, hob, hk⟩ := hrel.out
        have hlen : ((x.D.take i).map fewD).length = i := by rw [List.length_map, List.length_take, HN.out.2.1]; have := HM2.out; omega
      by_cases hlt : i < M2
      · have hin : (i : Int) < (M2 : Int) := by omega
        have hin1 : (i : Int) < (n2 : Int) := by have := HM2.out.2.1; omega
        have hin2 : (i : Int) < 70 := by have := HM2.out.2.2; omega
        have c0 := (hk.cell (p := ⟨ib, 1, none⟩) CI1.out.2 (fun e => by have := HIX.out; have := HXB1.out; rcases e with e | e <;> simp only at e <;> omega)).trans CI1.out.1
        obtain ⟨p, hp⟩ : ∃ p, x.D[i]? = some p := ⟨_, List.getElem?_eq_getElem (by rw [HN.out.2.1]; omega)⟩
        have hrow : RowZ tDump wr (fun b => b < w.heap.size) da x.D := (RDm.out.keep K0.out).kept (F0.out.2.2.trans hk (fun b hb e => e.elim .inl (fun e => .inr (by have := HBB.out; omega)))) (fun b _ hz e => by have hz : b < w.heap.size := hz; have := HXW.out; have := HXB0.out; rcases e with e | e <;> omega)
        obtain ⟨b, o, ga, gc, rfl, hb, -, hgc, hgz, d0, d1, d2, d3, d4, d5⟩ := hrow.dump hp
        have HP := Lib.hid hp
        obtain ⟨⟨nm, kd, kz, vz, mx⟩, data⟩ := p
        simp only at hgc hgz d0 d1 d2 d3 d4 d5
        obtain ⟨nc, hnc⟩ : ∃ nc, data.size = nc := ⟨_, rfl⟩
        rw [hnc] at d5 hgc
        obtain ⟨mC, hmC⟩ : ∃ mC, min nc 300 = mC := ⟨_, rfl⟩
        have hat : DAt wr (fun b => b < w.heap.size) (fewD ⟨⟨nm, kd, kz, vz, mx⟩, data⟩) [.string nm, .int .i64 kd, .int .i64 kz, .int .i64 vz, .int .i64 mx, .slice ga mC gc] := few_dump hgz (by rw [hnc]; exact hmC) (by omega)
        have HAT0 := Lib.hid hat
        have hmC1 : min (nc : Int) 300 = (mC : Int) := by omega
        have hC1 : mC ≤ gc := by omega
        clear hrow hgz hat hnc hmC hgc
        go_upto_region 14 with fail
        obtain ⟨wA, hwA⟩ : ∃ wA, wr.alloc (.cells #[.string nm, .int .i64 kd, .int .i64 kz, .int .i64 vz, .int .i64 mx, .slice ga mC gc] 101) = wA := ⟨_, rfl⟩
        have kA : Kept (fun _ => False) wr wA := by rw [← hwA]; exact Kept.one_alloc _ _
        obtain ⟨pb, hpb⟩ : ∃ pb, wr.heap.size = pb := ⟨_, rfl⟩
        have hcel := fun i => World.cell?_alloc_new wr #[.string nm, .int .i64 kd, .int .i64 kz, .int .i64 vz, .int .i64 mx, .slice ga mC gc] 101 i
        rw [hwA, hpb] at hcel
        have e0 := hcel 0
        have e1 := hcel 1
        have e2 := hcel 2
        have e3 := hcel 3
        have e4 := hcel 4
        have e5 := hcel 5
        simp at e0 e1 e2 e3 e4 e5
        rw [hpb, hwA]
        have HAT := Lib.hid (tDump.kept HAT0.out kA (fun _ _ _ e => e))
        clear hwA hpb hcel c0 d0 d1 d2 d3 d4 d5 hp
        rename World => wr
        have hck := (kA.cell (p := ⟨xb, 1, none⟩) hrw.lt (fun e => e)).trans hck
        have h0 := (kA.cell (p := ⟨xb, 0, none⟩) hrw.lt (fun e => e)).trans h0
        have h2 := (kA.cell (p := ⟨xb, 2, none⟩) hrw.lt (fun e => e)).trans h2
        have hrw := hrw.kept kA (fun e => e)
        have hown := hown.keep kA
        have hk := hk.trans kA (fun _ _ e => e.elim)
        have R := Lib.hid (And.intro hown (And.intro hk (And.intro hlen (And.intro hrw hob))))
        obtain ⟨css, ho, hcl, hat, hz⟩ := hown
        have hx1 : tDump.at_ wr (fun b => (bd1 ≤ b ∨ b < w.heap.size) ∧ (Value.slice a4 i c4).ownBlock ≠ some b) ((fewD ⟨⟨nm, kd, kz, vz, mx⟩, data⟩)) [.string nm, .int .i64 kd, .int .i64 kz, .int .i64 vz, .int .i64 mx, .slice ga mC gc] := tDump.mono HAT.out (fun b _ hb => ⟨.inr hb, fun e => by have := hob b e; have hb : b < w.heap.size := hb; have := HXW.out; have := HXB1.out; omega⟩)
        rw [hlen] at ho hcl
        have kq := Kept.one_alloc wr (.cells #[.string nm, .int .i64 kd, .int .i64 kz, .int .i64 vz, .int .i64 mx, .slice ga mC gc] 101)
        have HROW := Lib.hid (ownsRow_kept ho kq (fun _ _ e => e))
        have X := Lib.hid (And.intro hcl (And.intro hat (And.intro hz hx1)))
        have HLL := Lib.hid (show i + 1 ≤ 100 from by omega)
        clear ho hcl hat hz hx1 kq hk hlen hrw hob kA
        go_wp2_with (at_builtin; refine wpList_append_mine rfl _ _ dumpE rfl rfl HROW.out (some ⟨wr.heap.size, 0, none⟩) 1 1 [.string nm, .int .i64 kd, .int .i64 kz, .int .i64 vz, .int .i64 mx, .slice ga mC gc] rfl rfl (holds_block (heap_alloc_new wr _)) (by simp [Value.oneCell']) (Nat.le_trans HLL.out (by decide)) (Nat.le_trans (Nat.mul_le_mul_right 72 HLL.out) (by decide)) ?_; intro a3 c3 w6 own6 k6 b6; have hne6 : ¬ (Value.slice a4 i c4).ownBlock = some xb := (fun e => by have := R.out.2.2.2.2 xb e; have := HXB1.out; omega); have hc6 : w6.cell? ⟨xb, 1, none⟩ = some (.slice a4 i c4) := ((k6.cell (p := ⟨xb, 1, none⟩) (Nat.lt_of_lt_of_le R.out.2.2.2.1.lt (Kept.one_alloc wr _).size) hne6).trans ((Kept.one_alloc wr _).cell (p := ⟨xb, 1, none⟩) R.out.2.2.2.1.lt (fun e => e))).trans hck; have hf6 : w6.frozen? ⟨xb, 1, none⟩ = false := ((R.out.2.2.2.1.kept (Kept.one_alloc wr _) (fun e => e)).kept k6 hne6).frozen 1; have HNE6 := Lib.hid hne6; have O6 := Lib.hid (And.intro own6 (And.intro k6 b6)); clear own6 k6 b6 hne6)
        obtain ⟨hcl, hat, hz, hx1⟩ := X.out
        obtain ⟨hown, hk, hlen, hrw, hob⟩ := R.out
        have hne6 := HNE6.out
        have kq := Kept.one_alloc wr (.cells #[.string nm, .int .i64 kd, .int .i64 kz, .int .i64 vz, .int .i64 mx, .slice ga mC gc] 101)
        have hsn := OwnT.snoc (T := tDump) (l := (x.D.take i).map fewD) (x := (fewD ⟨⟨nm, kd, kz, vz, mx⟩, data⟩)) (css := css) (Z := fun b => bd1 ≤ b ∨ b < w.heap.size) (by rw [hlen]; exact HROW.out) (by rw [hlen]; exact hcl) (fun i x cs h1 h2 => tDump.kept (hat i x cs h1 h2) kq (fun _ _ _ e => e)) hz (tDump.kept hx1 kq (fun _ _ _ e => e)) (by rw [hlen]; exact O6.out.1) O6.out.2.1 O6.out.2.2
        have hbd : bd1 ≤ wr.heap.size := Nat.le_trans HBD1.out hk.size
        have hzq := kq.size
        have hown6 : OwnT tDump 101 w6 (fun b => bd1 ≤ b ∨ b < w.heap.size) (.slice a3 (i + 1) c3) ((x.D.take (i + 1)).map fewD) := by
          rw [show (x.D.take (i + 1)).map fewD = (x.D.take i).map fewD ++ [(fewD ⟨⟨nm, kd, kz, vz, mx⟩, data⟩)] from few_take HP.out]
          exact hsn.mono (fun b _ hb => hb.elim id (fun e => .inl (by omega)))
        have hob6 : ∀ b, (Value.slice a3 (i + 1) c3).ownBlock = some b → bd1 ≤ b := fun b e => by
          rcases O6.out.2.2 with ho | ho
          · exact hob b (ho.symm.trans e)
          · have := Option.some.inj (ho.symm.trans e)
            omega
        have k06 : Kept (fun b => (Value.slice a4 i c4).ownBlock = some b) wr w6 := (kq.mono (S' := fun b => (Value.slice a4 i c4).ownBlock = some b) (fun _ _ e => e.elim)).trans O6.out.2.1 (fun _ _ e => e)
        have hrw6 := hrw.kept k06 hne6
        have ks := Kept.one_set w6 ⟨xb, 1, none⟩ (.slice a3 (i + 1) c3)
        have k0s : Kept (fun b => b = xb ∨ bd1 ≤ b) wr _ := (k06.mono (S' := fun b => b = xb ∨ bd1 ≤ b) (fun b _ e => .inr (hob b e))).trans ks (fun _ _ e => .inl e)
        refine ⟨Lib.hid ⟨i + 1, a3, c3, hlt, rfl, hrw6.setCell _ _, cell_set_same hrw6 (by omega) _, (show (w6.setCell ⟨xb, 1, none⟩ (.slice a3 (i + 1) c3)).cell? ⟨xb, 0, none⟩ = some (.slice a0 M1 c0) from (World.cell?_setCell_other _ _ _ _ (by simp)).trans ((k06.cell (p := ⟨xb, 0, none⟩) hrw.lt hne6).trans h0)), (show (w6.setCell ⟨xb, 1, none⟩ (.slice a3 (i + 1) c3)).cell? ⟨xb, 2, none⟩ = some (.slice la M3 lc) from (World.cell?_setCell_other _ _ _ _ (by simp)).trans ((k06.cell (p := ⟨xb, 2, none⟩) hrw.lt hne6).trans h2)), hown6.kept ks (fun b _ hb e => by have e : b = xb := e; have hb : bd1 ≤ b ∨ b < w.heap.size := hb; have := HXB1.out; have := HXW.out; rcases hb with hb | hb <;> omega), hob6, hk.trans k0s (fun _ _ e => e)⟩, by simp only [intOf]; omega⟩
      · obtain rfl : M2 = i := by omega
        clear hlt hi
        have hfm := own_cap hown
        have F1 := Lib.hid (And.intro (show M2 ≤ c4 from by have := hfm.1; rw [hlen] at this; exact this) (And.intro hfm.2 hk))
        clear hfm hown hlen hob
        obtain ⟨a1, rfl⟩ : ∃ a, a = a4 := ⟨_, rfl⟩
        obtain ⟨c1, rfl⟩ : ∃ c, c = c4 := ⟨_, rfl⟩
        have ci1 := (hk.cell (p := ⟨ib, 1, none⟩) CI1.out.2 (fun e => by have := HIX.out; have := HXB1.out; rcases e with e | e <;> simp only at e <;> omega)).trans CI1.out.1
        have hrb := (RB.out.kept F0.out.2.2 (fun e => by have := HRX.out; have := HXB0.out; rcases e with e | e <;> omega)).kept hk (fun e => by have := HRX.out; have := HXB1.out; rcases e with e | e <;> omega)
        have HRB := Lib.hid hrb
        have f0 := hrb.frozen 0
        have f1 := hrb.frozen 1
        have f2 := hrb.frozen 2
        obtain ⟨y0, g0⟩ := hrb.some (o := 0) (by omega)
        obtain ⟨y1, g1⟩ := hrb.some (o := 1) (by omega)
        obtain ⟨y2, g2⟩ := hrb.some (o := 2) (by omega)
        clear hrb hk hrw
        have hstop := HM2.out.1
        have FIN := Lib.hid (show ∀ W', Kept (fun b => b = rb) wr W' → ImgAt W' (fun _ => True) (.agg #[.slice a0 M1 c0, .slice a1 M2 c1, .slice la M3 lc]) (fewI x) ∧ Kept (fun _ => False) w W' from fun W' k => few_fin (ib := ib) F0.out F1.out K0.out HXB0.out HXW.out HRX.out HBB.out HBD0.out HBE1.out RL.out HM1.out HM2.out HM3.out HN.out k)
        by_cases h70' : n2 ≤ 70
        · obtain rfl : M2 = n2 := by omega
          clear hstop h70'
          go_wp2_with fail
          obtain ⟨t9, h9⟩ := row_set3 (v0 := .slice a0 M1 c0) (v1 := .slice a1 M2 c1) (v2 := .slice la M3 lc) HRB.out
          have ks : Kept (fun b => b = rb) wr _ := ((Kept.one_set wr ⟨rb, 0, none⟩ (.slice a0 M1 c0)).trans (Kept.one_set _ ⟨rb, 1, none⟩ (.slice a1 M2 c1)) (fun _ _ e => e)).trans (Kept.one_set _ ⟨rb, 2, none⟩ (.slice la M3 lc)) (fun _ _ e => e)
          refine bodyPost_ret (results_cell_row (ty := 75) (p := 2) rfl _ _ rb t9 #[.slice a0 M1 c0, .slice a1 M2 c1, .slice la M3 lc] (0, 0) _ rfl h9 Tryz.underlying75 rfl (by kernel_rfl)) rfl ?_
          exact ⟨_, rfl, (FIN.out _ ks).1, (FIN.out _ ks).2⟩
        · have hgt' : (M2 : Int) < (n2 : Int) := by omega
          have hge' : ¬ (M2 : Int) < 70 := by omega
          clear hstop h70'
          go_wp2_with fail
          obtain ⟨t9, h9⟩ := row_set3 (v0 := .slice a0 M1 c0) (v1 := .slice a1 M2 c1) (v2 := .slice la M3 lc) HRB.out
          have ks : Kept (fun b => b = rb) wr _ := ((Kept.one_set wr ⟨rb, 0, none⟩ (.slice a0 M1 c0)).trans (Kept.one_set _ ⟨rb, 1, none⟩ (.slice a1 M2 c1)) (fun _ _ e => e)).trans (Kept.one_set _ ⟨rb, 2, none⟩ (.slice la M3 lc)) (fun _ _ e => e)
          refine bodyPost_ret (results_cell_row (ty := 75) (p := 2) rfl _ _ rb t9 #[.slice a0 M1 c0, .slice a1 M2 c1, .slice la M3 lc] (0, 0) _ rfl h9 Tryz.underlying75 rfl (by kernel_rfl)) rfl ?_
          exact ⟨_, rfl, (FIN.out _ ks).1, (FIN.out _ ks).2⟩
end Go.Proofs.YtdkcnigghcbnpaaGreat
