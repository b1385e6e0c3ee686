/- law18.same: is an image the document's? -/
import Derived.Test.YtdkcnigghcbnpaaGreatImgE
import Derived.BigQuiet
import Derived.Laws.StructEq
import Derived.Test.YtdkcnigghcbnpaaGreatHeldQ
import Derived.Deep.CutBlock
import Derived.Test.YtdkcnigghcbnpaaGreatGenB
namespace Go.Proofs.YtdkcnigghcbnpaaGreat
set_option linter.unusedVariables false
set_option linter.unusedSimpArgs false
open Go.RowKit Go.MapKept

theorem list_eq {α : Type} {a b : List α} (h : a.length = b.length) (h2 : ∀ j, j < a.length → a[j]? = b[j]?) : a = b := by
  apply List.ext_getElem?
  intro j
  by_cases hj : j < a.length
  · exact h2 j hj
  · rw [List.getElem?_eq_none (by omega), List.getElem?_eq_none (by omega)]
theorem BytZ.keepB {w w' : World} {Z : Nat → Prop} {a : Option Addr} {k : ByteArray} (h : BytZ w Z a k) (q : Kept (fun _ => False) w w') : BytesAt w' a k.size k := h.1.kept q (fun _ _ _ e => e)
set_option maxRecDepth 100000 in
theorem tm_run (a b : ByteArray) (k1 k2 s1 s2 v1 v2 m1 m2 : Int) (w : World) : (binOp .neq 35 (.agg #[.string a, .int .i64 k1, .int .i64 s1, .int .i64 v1, .int .i64 m1]) (.agg #[.string b, .int .i64 k2, .int .i64 s2, .int .i64 v2, .int .i64 m2])).run Tryz.prog w = .ok (.bool (!decide (a.toList = b.toList ∧ k1 = k2 ∧ s1 = s2 ∧ v1 = v2 ∧ m1 = m2))) w := by
  rw [run_neq_struct, show (10000 : Nat) = 9999 + 1 from rfl, run_equalIn_agg w 9999 35 _ _ (by kernel_rfl) (by kernel_rfl)]
  have hu := Tryz.underlying35
  simp only [Program.fieldsOf, hu]
  simp [Op.eqFields]
  go_simp
  by_cases h1 : a.toList = b.toList <;> by_cases h2 : k1 = k2 <;> by_cases h3 : s1 = s2 <;> by_cases h4 : v1 = v2 <;> by_cases h5 : m1 = m2 <;> simp [h1, h2, h3, h4, h5]
theorem toList_inj {a b : ByteArray} (h : a.toList = b.toList) : a = b := by
  cases hb : decide (a = b) with
  | true => exact of_decide_eq_true hb
  | false =>
    have := bytes_ne (of_decide_eq_false hb)
    rw [h] at this
    simp at this
theorem tm_other {a b : ByteArray} {k1 k2 s1 s2 v1 v2 m1 m2 : Int} (h : (⟨a, k1, s1, v1, m1⟩ : TM) ≠ ⟨b, k2, s2, v2, m2⟩) (w : World) : (binOp .neq 35 (.agg #[.string a, .int .i64 k1, .int .i64 s1, .int .i64 v1, .int .i64 m1]) (.agg #[.string b, .int .i64 k2, .int .i64 s2, .int .i64 v2, .int .i64 m2])).run Tryz.prog w = .ok (.bool true) w := by
  rw [tm_run, decide_eq_false]
  · rfl
  · rintro ⟨h1, h2, h3, h4, h5⟩
    exact h (by rw [toList_inj h1, h2, h3, h4, h5])
theorem tm_self {a : ByteArray} {k1 s1 v1 m1 : Int} (w : World) : (binOp .neq 35 (.agg #[.string a, .int .i64 k1, .int .i64 s1, .int .i64 v1, .int .i64 m1]) (.agg #[.string a, .int .i64 k1, .int .i64 s1, .int .i64 v1, .int .i64 m1])).run Tryz.prog w = .ok (.bool false) w := by
  rw [tm_run, decide_eq_true ⟨rfl, rfl, rfl, rfl, rfl⟩]
  rfl
attribute [-go_sem] run_neq_struct
def SameP (w : World) (x y : GI) (e : Ending) (w' : World) : Prop := Kept (fun _ => False) w w' ∧ ∃ r, e = .returned (.bool r) ∧ (r = true ↔ x = y)
theorem SameP.no {w w' : World} {x y : GI} {e : Ending} (k : Kept (fun _ => False) w w') (h : x ≠ y) (he : e = .returned (.bool false)) : SameP w x y e w' := ⟨k, false, he, by simp [h]⟩
theorem SameP.yes {w w' : World} {x y : GI} {e : Ending} (k : Kept (fun _ => False) w w') (h : x = y) (he : e = .returned (.bool true)) : SameP w x y e w' := ⟨k, true, he, by simp [h]⟩
theorem ne_P {x y : GI} {i : Nat} {p q : GP} (h1 : x.P[i]? = some p) (h2 : y.P[i]? = some q) (h : p ≠ q) : x ≠ y := fun e => by
  subst e
  rw [h1] at h2
  exact h (Option.some.inj h2)
theorem ne_D {x y : GI} {i : Nat} {p q : GD} (h1 : x.D[i]? = some p) (h2 : y.D[i]? = some q) (h : p ≠ q) : x ≠ y := fun e => by
  subst e
  rw [h1] at h2
  exact h (Option.some.inj h2)
theorem ne_L {x y : GI} {i : Nat} {p q : GL} (h1 : x.L[i]? = some p) (h2 : y.L[i]? = some q) (h : p ≠ q) : x ≠ y := fun e => by
  subst e
  rw [h1] at h2
  exact h (Option.some.inj h2)
set_option maxRecDepth 100000 in
set_option maxHeartbeats 4000000 in
theorem same_any {w : World} {Z1 Z2 : Nat → Prop} {v1 v2 : Value} {x y : GI} (h1 : ImgAt w Z1 v1 x) (h2 : ImgAt w Z2 v2 y) (hs : x.P.length ≤ 1000 ∧ x.D.length ≤ 1000 ∧ x.L.length ≤ 1000) (hm : ∀ p ∈ x.P, p.maps.length ≤ 1000) :
    Calls Tryz.prog 41 #[v1, v2] w (SameP w x y) := by
  obtain ⟨pa, pc, da, dc, la, lc, rfl, g1, g2, g3, z1, z2, z3⟩ := h1
  obtain ⟨qa, qc, ea, ec, ma, mc, rfl, g4, g5, g6, z4, z5, z6⟩ := h2
  have RP := Lib.hid (z1.mono (Z' := fun _ => True) (fun b hb _ => trivial))
  have RDm := Lib.hid (z2.mono (Z' := fun _ => True) (fun b hb _ => trivial))
  have RL := Lib.hid (z3.mono (Z' := fun _ => True) (fun b hb _ => trivial))
  have RP' := Lib.hid (z4.mono (Z' := fun _ => True) (fun b hb _ => trivial))
  have RD' := Lib.hid (z5.mono (Z' := fun _ => True) (fun b hb _ => trivial))
  have RL' := Lib.hid (z6.mono (Z' := fun _ => True) (fun b hb _ => trivial))
  have HMM := Lib.hid hm
  obtain ⟨n1, hn1⟩ : ∃ n1, x.P.length = n1 := ⟨_, rfl⟩
  obtain ⟨n2, hn2⟩ : ∃ n2, x.D.length = n2 := ⟨_, rfl⟩
  obtain ⟨n3, hn3⟩ : ∃ n3, x.L.length = n3 := ⟨_, rfl⟩
  obtain ⟨m1, hm1⟩ : ∃ m1, y.P.length = m1 := ⟨_, rfl⟩
  obtain ⟨m2, hm2⟩ : ∃ m2, y.D.length = m2 := ⟨_, rfl⟩
  obtain ⟨m3, hm3⟩ : ∃ m3, y.L.length = m3 := ⟨_, rfl⟩
  rw [hn1, hn2, hn3] at hs ⊢
  rw [hm1, hm2, hm3]
  have HN := Lib.hid (And.intro hn1 (And.intro hn2 hn3))
  have HM := Lib.hid (And.intro hm1 (And.intro hm2 hm3))
  obtain ⟨hk1, hk2, hk3⟩ := hs
  clear z1 z2 z3 z4 z5 z6 hn1 hn2 hn3 hm1 hm2 hm3 g1 g2 g3 g4 g5 g6 hm
  obtain ⟨ib, hib⟩ : ∃ ib, w.heap.size = ib := ⟨_, rfl⟩
  have kq1 := Kept.one_alloc w (.cells #[.slice pa n1 pc, .slice da n2 dc, .slice la n3 lc] 75)
  have kq2 := Kept.one_alloc (w.alloc (.cells #[.slice pa n1 pc, .slice da n2 dc, .slice la n3 lc] 75)) (.cells #[.slice qa m1 qc, .slice ea m2 ec, .slice ma m3 mc] 84)
  have K0 := Lib.hid (kq1.trans kq2 (fun _ _ e => e))
  by_cases h1 : n1 = m1
  case neg =>
    have h1' : ¬ (n1 : Int) = (m1 : Int) := by omega
    have HNE := Lib.hid (show x ≠ y from fun e => h1 (by rw [← HN.out.1, ← HM.out.1, e]))
    clear h1 kq1 kq2
    go_enter Tryz.func41, Tryz.ntmps41
    go_wp2_with fail
    go_ret
    exact SameP.no K0.out HNE.out rfl
  by_cases h2 : n2 = m2
  case neg =>
    have h2' : ¬ (n2 : Int) = (m2 : Int) := by omega
    have HNE := Lib.hid (show x ≠ y from fun e => h2 (by rw [← HN.out.2.1, ← HM.out.2.1, e]))
    subst h1
    clear h2 kq1 kq2
    go_enter Tryz.func41, Tryz.ntmps41
    go_wp2_with fail
    go_ret
    exact SameP.no K0.out HNE.out rfl
  by_cases h3 : n3 = m3
  case neg =>
    have h3' : ¬ (n3 : Int) = (m3 : Int) := by omega
    have HNE := Lib.hid (show x ≠ y from fun e => h3 (by rw [← HN.out.2.2, ← HM.out.2.2, e]))
    subst h1
    subst h2
    clear h3 kq1 kq2
    go_enter Tryz.func41, Tryz.ntmps41
    go_wp2_with fail
    go_ret
    exact SameP.no K0.out HNE.out rfl
  subst h1
  subst h2
  subst h3
  clear kq1 kq2
  go_enter Tryz.func41, Tryz.ntmps41
  go_wp2_with fail
  obtain ⟨w0, hw0⟩ : ∃ w0, (w.alloc (.cells #[.slice pa n1 pc, .slice da n2 dc, .slice la n3 lc] 75)).alloc (.cells #[.slice qa n1 qc, .slice ea n2 ec, .slice ma n3 mc] 84) = w0 := ⟨_, rfl⟩
  have i1 := fun i => World.cell?_alloc_new w #[.slice pa n1 pc, .slice da n2 dc, .slice la n3 lc] 75 i
  have i2 := fun i => World.cell?_alloc_new (w.alloc (.cells #[.slice pa n1 pc, .slice da n2 dc, .slice la n3 lc] 75)) #[.slice qa n1 qc, .slice ea n2 ec, .slice ma n3 mc] 84 i
  have q2 := Kept.one_alloc (w.alloc (.cells #[.slice pa n1 pc, .slice da n2 dc, .slice la n3 lc] 75)) (.cells #[.slice qa n1 qc, .slice ea n2 ec, .slice ma n3 mc] 84)
  have hz1 : (w.alloc (.cells #[.slice pa n1 pc, .slice da n2 dc, .slice la n3 lc] 75)).heap.size = ib + 1 := by rw [← hib]; simp
  have hz2 : ((w.alloc (.cells #[.slice pa n1 pc, .slice da n2 dc, .slice la n3 lc] 75)).alloc (.cells #[.slice qa n1 qc, .slice ea n2 ec, .slice ma n3 mc] 84)).heap.size = ib + 1 + 1 := by rw [← hib]; simp
  rw [hib] at i1
  have i3 : ∀ i, _ := fun i => (q2.cell (p := ⟨ib, i, none⟩) (by rw [hz1]; exact Nat.lt_succ_self ib) (fun e => e)).trans (i1 i)
  rw [hz1] at i2
  rw [hw0] at i2 i3 K0 hz2 ⊢
  have CI := Lib.hid (show ∀ W', Kept (fun _ => False) w0 W' → (W'.cell? ⟨ib, 0, none⟩ = some (.slice pa n1 pc) ∧ W'.cell? ⟨ib, 1, none⟩ = some (.slice da n2 dc) ∧ W'.cell? ⟨ib, 2, none⟩ = some (.slice la n3 lc)) ∧ (W'.cell? ⟨ib + 1, 0, none⟩ = some (.slice qa n1 qc) ∧ W'.cell? ⟨ib + 1, 1, none⟩ = some (.slice ea n2 ec) ∧ W'.cell? ⟨ib + 1, 2, none⟩ = some (.slice ma n3 mc)) from fun W' k => ⟨⟨(k.cell (p := ⟨ib, 0, none⟩) (by rw [hz2]; show ib < _; omega) (fun e => e)).trans (i3 0), (k.cell (p := ⟨ib, 1, none⟩) (by rw [hz2]; show ib < _; omega) (fun e => e)).trans (i3 1), (k.cell (p := ⟨ib, 2, none⟩) (by rw [hz2]; show ib < _; omega) (fun e => e)).trans (i3 2)⟩, ⟨(k.cell (p := ⟨ib + 1, 0, none⟩) (by rw [hz2]; show ib + 1 < _; omega) (fun e => e)).trans (i2 0), (k.cell (p := ⟨ib + 1, 1, none⟩) (by rw [hz2]; show ib + 1 < _; omega) (fun e => e)).trans (i2 1), (k.cell (p := ⟨ib + 1, 2, none⟩) (by rw [hz2]; show ib + 1 < _; omega) (fun e => e)).trans (i2 2)⟩⟩)
  have HSZ := Lib.hid (show ib + 1 < w0.heap.size from by rw [hz2]; exact Nat.lt_succ_self _)
  clear i1 i2 i3 q2 hz1 hz2 hw0 hib
  go_loopw [5, 6, 7, 8] (fun s5 s6 s7 s8 wr => ∃ i : Nat, i ≤ n1 ∧ s5 = .int .i64 (i : Int) ∧ (∀ j, j < i → x.P[j]? = y.P[j]?) ∧ Kept (fun _ => False) w0 wr) (fun s5 _ _ _ _ => n1 - (intOf s5).toNat)
  case atStart => exact ⟨0, Nat.zero_le _, rfl, fun j hj => absurd hj (Nat.not_lt_zero _), Kept.refl _ _⟩
  case' round =>
    obtain ⟨i, hi, rfl, hall, hk⟩ := hrel
    have R := Lib.hid (And.intro hall hk)
    have c0 := (CI.out wr hk).1.1
    have c0' := (CI.out wr hk).2.1
    clear hall
  by_cases hlt : i < n1
  · have hin : (i : Int) < (n1 : Int) := by omega
    obtain ⟨p, hp⟩ : ∃ p, x.P[i]? = some p := ⟨_, List.getElem?_eq_getElem (by rw [HN.out.1]; exact hlt)⟩
    obtain ⟨q, hq⟩ : ∃ q, y.P[i]? = some q := ⟨_, List.getElem?_eq_getElem (by rw [HM.out.1]; exact hlt)⟩
    have HPQ := Lib.hid (And.intro hp hq)
    obtain ⟨b, o, ca, cc, sa, sc, rfl, hb, -, hcc, hmc, hcz, hmz, d0, d1, d2, d3, d4⟩ := ((RP.out.keep K0.out).keep hk).prog hp
    obtain ⟨b', o', ca', cc', sa', sc', rfl, hb', -, hcc', hmc', hcz', hmz', d0', d1', d2', d3', d4'⟩ := ((RP'.out.keep K0.out).keep hk).prog hq
    have HMP := Lib.hid (HMM.out p (List.mem_of_getElem? hp))
    obtain ⟨nm, code, maps, cx, em⟩ := p
    obtain ⟨nm2, code2, maps2, cx2, em2⟩ := q
    simp only at hcc hmc hcz hmz d0 d1 d2 d3 d4 hcc' hmc' hcz' hmz' d0' d1' d2' d3' d4' HMP
    obtain ⟨nc, hnc⟩ : ∃ nc, code.size = nc := ⟨_, rfl⟩
    obtain ⟨nl, hnl⟩ : ∃ nl, maps.length = nl := ⟨_, rfl⟩
    obtain ⟨nc2, hnc2⟩ : ∃ nc, code2.size = nc := ⟨_, rfl⟩
    obtain ⟨nl2, hnl2⟩ : ∃ nl, maps2.length = nl := ⟨_, rfl⟩
    rw [hnc] at d1
    rw [hnl] at d2 HMP
    rw [hnc2] at d1'
    rw [hnl2] at d2'
    have HL := Lib.hid (And.intro hnl hnl2)
    have HZ := Lib.hid (And.intro hcz (And.intro hcz' (And.intro hmz (And.intro hmz' (And.intro hnc hnc2)))))
    have hjl : ib + 1 < wr.heap.size := Nat.lt_of_lt_of_le HSZ.out hk.size
    have hil : ib < wr.heap.size := by omega
    clear hp hq hcc hmc hcz hmz hcc' hmc' hcz' hmz' hnc hnl hnc2 hnl2 hk
    go_upto_region 8 with fail
    have kq1 := Kept.one_alloc wr (.cells #[.string nm, .slice ca nc cc, .slice sa nl sc, .int .i64 cx, .int .i64 em] 99)
    have kq2 := Kept.one_alloc (wr.alloc (.cells #[.string nm, .slice ca nc cc, .slice sa nl sc, .int .i64 cx, .int .i64 em] 99)) (.cells #[.string nm2, .slice ca' nc2 cc', .slice sa' nl2 sc', .int .i64 cx2, .int .i64 em2] 99)
    have i1 := fun i => World.cell?_alloc_new wr #[.string nm, .slice ca nc cc, .slice sa nl sc, .int .i64 cx, .int .i64 em] 99 i
    have i2 := fun i => World.cell?_alloc_new (wr.alloc (.cells #[.string nm, .slice ca nc cc, .slice sa nl sc, .int .i64 cx, .int .i64 em] 99)) #[.string nm2, .slice ca' nc2 cc', .slice sa' nl2 sc', .int .i64 cx2, .int .i64 em2] 99 i
    obtain ⟨pb, hpb⟩ : ∃ pb, wr.heap.size = pb := ⟨_, rfl⟩
    have hz1 : (wr.alloc (.cells #[.string nm, .slice ca nc cc, .slice sa nl sc, .int .i64 cx, .int .i64 em] 99)).heap.size = pb + 1 := by rw [← hpb]; simp
    have hz2 : ((wr.alloc (.cells #[.string nm, .slice ca nc cc, .slice sa nl sc, .int .i64 cx, .int .i64 em] 99)).alloc (.cells #[.string nm2, .slice ca' nc2 cc', .slice sa' nl2 sc', .int .i64 cx2, .int .i64 em2] 99)).heap.size = pb + 1 + 1 := by rw [← hpb]; simp
    obtain ⟨wA, hwA⟩ : ∃ wA, (wr.alloc (.cells #[.string nm, .slice ca nc cc, .slice sa nl sc, .int .i64 cx, .int .i64 em] 99)).alloc (.cells #[.string nm2, .slice ca' nc2 cc', .slice sa' nl2 sc', .int .i64 cx2, .int .i64 em2] 99) = wA := ⟨_, rfl⟩
    rw [hpb] at i1
    have i3 : ∀ i, _ := fun i => (kq2.cell (p := ⟨pb, i, none⟩) (by rw [hz1]; exact Nat.lt_succ_self pb) (fun e => e)).trans (i1 i)
    rw [hz1] at i2
    have kA := kq1.trans kq2 (fun _ _ e => e)
    rw [hwA] at i2 i3 kA hz2 ⊢
    rw [hpb]
    have e0 := i3 0
    have e1 := i3 1
    have e2 := i3 2
    have e3 := i3 3
    have e4 := i3 4
    have f0 := i2 0
    have f1 := i2 1
    have f2 := i2 2
    have f3 := i2 3
    have f4 := i2 4
    simp at e0 e1 e2 e3 e4 f0 f1 f2 f3 f4
    have EA := Lib.hid (show pb + 1 < wA.heap.size from by rw [hz2]; exact Nat.lt_succ_self _)
    have KA := Lib.hid (show Kept (fun _ => False) w wA from (K0.out.trans R.out.2 (fun _ _ e => e)).trans kA (fun _ _ e => e))
    have KRA := Lib.hid kA
    have hcv := (HZ.out.1.keepB kA).conv (c := cc)
    have hcv2 := (HZ.out.2.1.keepB kA).conv (c := cc')
    rw [HZ.out.2.2.2.2.1] at hcv
    rw [HZ.out.2.2.2.2.2] at hcv2
    clear i1 i2 i3 kq1 kq2 hz1 hz2 hwA hpb kA c0 c0' d0 d1 d2 d3 d4 d0' d1' d2' d3' d4'
    by_cases t1 : nm = nm2
    case neg =>
      have HNE := Lib.hid (ne_P HPQ.out.1 HPQ.out.2 (fun e => t1 (by cases e; rfl)))
      have hb := bytes_ne t1
      clear t1
      go_wp2_with fail
      go_ret
      exact SameP.no KA.out HNE.out rfl
    subst t1
    have hs1 := bytes_self nm
    by_cases t2 : code = code2
    case neg =>
      have HNE := Lib.hid (ne_P HPQ.out.1 HPQ.out.2 (fun e => t2 (by cases e; rfl)))
      have hb := bytes_ne t2
      clear t2
      go_wp2_with fail
      go_ret
      exact SameP.no KA.out HNE.out rfl
    subst t2
    have hs2 := bytes_self code
    by_cases t3 : cx = cx2
    case neg =>
      have HNE := Lib.hid (ne_P HPQ.out.1 HPQ.out.2 (fun e => t3 (by cases e; rfl)))
      have hb := t3
      clear t3
      go_wp2_with fail
      go_ret
      exact SameP.no KA.out HNE.out rfl
    subst t3
    by_cases t4 : em = em2
    case neg =>
      have HNE := Lib.hid (ne_P HPQ.out.1 HPQ.out.2 (fun e => t4 (by cases e; rfl)))
      have hb := t4
      clear t4
      go_wp2_with fail
      go_ret
      exact SameP.no KA.out HNE.out rfl
    subst t4
    by_cases t5 : nl = nl2
    case neg =>
      have HNE := Lib.hid (ne_P HPQ.out.1 HPQ.out.2 (fun e => t5 (by rw [← HL.out.1, ← HL.out.2]; cases e; rfl)))
      have hb : ¬ (nl : Int) = (nl2 : Int) := by omega
      clear t5
      go_wp2_with fail
      go_ret
      exact SameP.no KA.out HNE.out rfl
    subst t5
    go_wp2_with fail
    have hnk : nl ≤ 1000 := HMP.out
    go_loopw [8] (fun s8 wr2 => ∃ k : Nat, k ≤ nl ∧ s8 = .int .i64 (k : Int) ∧ (∀ j, j < k → maps[j]? = maps2[j]?) ∧ Kept (fun _ => False) wA wr2) (fun s8 _ => nl - (intOf s8).toNat)
    case atStart => exact ⟨0, Nat.zero_le _, rfl, fun j hj => absurd hj (Nat.not_lt_zero _), Kept.refl _ _⟩
    case' round =>
      obtain ⟨k, hkk, rfl, hall2, hkr⟩ := hrel
      have g2 := (hkr.cell (p := ⟨pb, 2, none⟩) (by have := EA.out; show pb < _; omega) (fun e => e)).trans e2
      have g2' := (hkr.cell (p := ⟨pb + 1, 2, none⟩) EA.out (fun e => e)).trans f2
      have R2 := Lib.hid (And.intro hall2 hkr)
      clear hall2
    by_cases hlt2 : k < nl
    · have hin2 : (k : Int) < (nl : Int) := by omega
      obtain ⟨s, hs⟩ : ∃ s, maps[k]? = some s := ⟨_, List.getElem?_eq_getElem (by rw [HL.out.1]; exact hlt2)⟩
      obtain ⟨s', hs'⟩ : ∃ s, maps2[k]? = some s := ⟨_, List.getElem?_eq_getElem (by rw [HL.out.2]; exact hlt2)⟩
      obtain ⟨ub, uo, rfl, hub, -, u0⟩ := ((HZ.out.2.2.1.keep KRA.out).keep hkr).str hs
      obtain ⟨vb, vo, rfl, hvb, -, v0⟩ := ((HZ.out.2.2.2.1.keep KRA.out).keep hkr).str hs'
      have HS := Lib.hid (And.intro hs hs')
      have HKR := Lib.hid hkr
      clear hs hs' hkr e0 e1 e2 e3 e4 f0 f1 f2 f3 f4 hcv hcv2
      by_cases t6 : s = s'
      case neg =>
        have HNE := Lib.hid (ne_P HPQ.out.1 HPQ.out.2 (fun e => t6 (by cases e; have := HS.out.1; rw [HS.out.2] at this; exact (Option.some.inj this).symm)))
        have hb6 := bytes_ne t6
        have HK2 := Lib.hid (KA.out.trans HKR.out (fun _ _ e => e))
        clear t6
        go_upto_region 13 with fail
        go_quiet (fail)
        go_wp2_with fail
        go_ret
        first | exact SameP.no HK2.out HNE.out rfl | exact SameP.no (HK2.out.drewN _) HNE.out rfl
      subst t6
      have hb6 := bytes_self s
      go_upto_region 13 with fail
      go_quiet (fail)
      go_wp2_with fail
      have hkn : Kept (fun _ => False) wA _ := HKR.out
      refine ⟨⟨k + 1, hlt2, rfl, fun j hj => ?_, ?_⟩, by simp only [intOf]; omega⟩
      · by_cases ej : j = k
        · subst ej
          rw [HS.out.1, HS.out.2]
        · exact R2.out.1 j (by omega)
      · first | exact HKR.out | exact HKR.out.drewN _
    · obtain rfl : nl = k := by omega
      have HKR := Lib.hid hkr
      clear hlt2 hkk hkr e0 e1 e3 e4 f0 f1 f3 f4 hcv hcv2
      go_wp2_with fail
      refine ⟨⟨i + 1, hlt, rfl, fun j hj => ?_, (R.out.2.trans KRA.out (fun _ _ e => e)).trans HKR.out (fun _ _ e => e)⟩, by simp only [intOf]; omega⟩
      by_cases ej : j = i
      · subst ej
        rw [HPQ.out.1, HPQ.out.2, show maps = maps2 from list_eq (by rw [HL.out.1, HL.out.2]) (fun j hj => R2.out.1 j (by rw [← HL.out.1]; exact hj))]
      · exact R.out.1 j (by omega)
  · obtain rfl : n1 = i := by omega
    have HP := Lib.hid (show x.P = y.P from list_eq (by rw [HN.out.1, HM.out.1]) (fun j hj => R.out.1 j (by rw [← HN.out.1]; exact hj)))
    have HWP := Lib.hid R.out.2
    have HRW := Lib.hid R.out
    clear hlt hi hk c0'
    go_wp2_with fail
    clear c0 R
    go_loopw [9] (fun s9 wr' => ∃ i : Nat, i ≤ n2 ∧ s9 = .int .i64 (i : Int) ∧ (∀ j, j < i → x.D[j]? = y.D[j]?) ∧ Kept (fun _ => False) w0 wr') (fun s9 _ => n2 - (intOf s9).toNat)
    case atStart => exact ⟨0, Nat.zero_le _, rfl, fun j hj => absurd hj (Nat.not_lt_zero _), HWP.out⟩
    case' round =>
      obtain ⟨i, hi, rfl, hall, hk⟩ := hrel
      have R := Lib.hid (And.intro hall hk)
      have c1 := (CI.out _ hk).1.2.1
      have c1' := (CI.out _ hk).2.2.1
      have hjl := Nat.lt_of_lt_of_le HSZ.out hk.size
      have hil := Nat.lt_of_succ_lt hjl
      clear hall
    by_cases hlt : i < n2
    · have hin : (i : Int) < (n2 : Int) := by omega
      obtain ⟨p, hp⟩ : ∃ p, x.D[i]? = some p := ⟨_, List.getElem?_eq_getElem (by rw [HN.out.2.1]; exact hlt)⟩
      obtain ⟨q, hq⟩ : ∃ q, y.D[i]? = some q := ⟨_, List.getElem?_eq_getElem (by rw [HM.out.2.1]; exact hlt)⟩
      have HPQ := Lib.hid (And.intro hp hq)
      obtain ⟨b, o, ga, gc, rfl, hb, -, hgc, hgz, d0, d1, d2, d3, d4, d5⟩ := ((RDm.out.keep K0.out).keep hk).dump hp
      obtain ⟨b', o', ga', gc', rfl, hb', -, hgc', hgz', d0', d1', d2', d3', d4', d5'⟩ := ((RD'.out.keep K0.out).keep hk).dump hq
      obtain ⟨⟨nm, kd, kz, vz, mx⟩, data⟩ := p
      obtain ⟨⟨nm2, kd2, kz2, vz2, mx2⟩, data2⟩ := q
      simp only at hgc hgz d0 d1 d2 d3 d4 d5 hgc' hgz' d0' d1' d2' d3' d4' d5'
      obtain ⟨nc, hnc⟩ : ∃ nc, data.size = nc := ⟨_, rfl⟩
      obtain ⟨nc2, hnc2⟩ : ∃ nc, data2.size = nc := ⟨_, rfl⟩
      have hcv := hgz.1.conv (c := gc)
      have hcv2 := hgz'.1.conv (c := gc')
      rw [hnc] at d5 hcv
      rw [hnc2] at d5' hcv2
      have KW := Lib.hid (K0.out.trans hk (fun _ _ e => e))
      clear hp hq hgc hgc' hk
      by_cases t1 : (⟨nm, kd, kz, vz, mx⟩ : TM) = ⟨nm2, kd2, kz2, vz2, mx2⟩
      case neg =>
        have HNE := Lib.hid (ne_D HPQ.out.1 HPQ.out.2 (fun e => t1 (by cases e; rfl)))
        go_upto_region 18 with fail
        have CX := Lib.hid (show ∀ w', Kept (fun _ => False) _ w' → w'.cell? ⟨ib, 1, none⟩ = some (.slice (some ⟨b, o, none⟩) n2 dc) ∧ w'.cell? ⟨ib + 1, 1, none⟩ = some (.slice (some ⟨b', o', none⟩) n2 ec) ∧ w'.cell? ⟨b, o + i * 6, none⟩ = some (.string nm) ∧ w'.cell? ⟨b, o + i * 6 + 1, none⟩ = some (.int .i64 kd) ∧ w'.cell? ⟨b, o + i * 6 + 2, none⟩ = some (.int .i64 kz) ∧ w'.cell? ⟨b, o + i * 6 + 3, none⟩ = some (.int .i64 vz) ∧ w'.cell? ⟨b, o + i * 6 + 4, none⟩ = some (.int .i64 mx) ∧ w'.cell? ⟨b, o + i * 6 + 5, none⟩ = some (.slice ga nc gc) ∧ w'.cell? ⟨b', o' + i * 6, none⟩ = some (.string nm2) ∧ w'.cell? ⟨b', o' + i * 6 + 1, none⟩ = some (.int .i64 kd2) ∧ w'.cell? ⟨b', o' + i * 6 + 2, none⟩ = some (.int .i64 kz2) ∧ w'.cell? ⟨b', o' + i * 6 + 3, none⟩ = some (.int .i64 vz2) ∧ w'.cell? ⟨b', o' + i * 6 + 4, none⟩ = some (.int .i64 mx2) ∧ w'.cell? ⟨b', o' + i * 6 + 5, none⟩ = some (.slice ga' nc2 gc') ∧ (binOp .neq 35 (.agg #[.string nm, .int .i64 kd, .int .i64 kz, .int .i64 vz, .int .i64 mx]) (.agg #[.string nm2, .int .i64 kd2, .int .i64 kz2, .int .i64 vz2, .int .i64 mx2])).run Tryz.prog w' = .ok (.bool true) w' ∧ (convert 28 9 (.slice ga nc gc)).run Tryz.prog w' = .ok (.string data) w' ∧ (convert 28 9 (.slice ga' nc2 gc')).run Tryz.prog w' = .ok (.string data2) w' from fun w' k => ⟨(k.cell (p := ⟨ib, 1, none⟩) hil (fun e => e)).trans c1, (k.cell (p := ⟨ib + 1, 1, none⟩) hjl (fun e => e)).trans c1', (k.cell (p := ⟨b, o + i * 6, none⟩) hb (fun e => e)).trans d0, (k.cell (p := ⟨b, o + i * 6 + 1, none⟩) hb (fun e => e)).trans d1, (k.cell (p := ⟨b, o + i * 6 + 2, none⟩) hb (fun e => e)).trans d2, (k.cell (p := ⟨b, o + i * 6 + 3, none⟩) hb (fun e => e)).trans d3, (k.cell (p := ⟨b, o + i * 6 + 4, none⟩) hb (fun e => e)).trans d4, (k.cell (p := ⟨b, o + i * 6 + 5, none⟩) hb (fun e => e)).trans d5, (k.cell (p := ⟨b', o' + i * 6, none⟩) hb' (fun e => e)).trans d0', (k.cell (p := ⟨b', o' + i * 6 + 1, none⟩) hb' (fun e => e)).trans d1', (k.cell (p := ⟨b', o' + i * 6 + 2, none⟩) hb' (fun e => e)).trans d2', (k.cell (p := ⟨b', o' + i * 6 + 3, none⟩) hb' (fun e => e)).trans d3', (k.cell (p := ⟨b', o' + i * 6 + 4, none⟩) hb' (fun e => e)).trans d4', (k.cell (p := ⟨b', o' + i * 6 + 5, none⟩) hb' (fun e => e)).trans d5', tm_other t1 _, by rw [← hnc]; exact (BytesAt.kept hgz.1 k (fun _ _ _ e => e)).conv, by rw [← hnc2]; exact (BytesAt.kept hgz'.1 k (fun _ _ _ e => e)).conv⟩)
        clear c1 c1' d0 d1 d2 d3 d4 d5 d0' d1' d2' d3' d4' d5' hcv hcv2 hgz hgz' hnc hnc2 hb hb' t1
        refine wp_region_heldQ (S := fun w' => w'.cell? ⟨ib, 1, none⟩ = some (.slice (some ⟨b, o, none⟩) n2 dc) ∧ w'.cell? ⟨ib + 1, 1, none⟩ = some (.slice (some ⟨b', o', none⟩) n2 ec) ∧ w'.cell? ⟨b, o + i * 6, none⟩ = some (.string nm) ∧ w'.cell? ⟨b, o + i * 6 + 1, none⟩ = some (.int .i64 kd) ∧ w'.cell? ⟨b, o + i * 6 + 2, none⟩ = some (.int .i64 kz) ∧ w'.cell? ⟨b, o + i * 6 + 3, none⟩ = some (.int .i64 vz) ∧ w'.cell? ⟨b, o + i * 6 + 4, none⟩ = some (.int .i64 mx) ∧ w'.cell? ⟨b, o + i * 6 + 5, none⟩ = some (.slice ga nc gc) ∧ w'.cell? ⟨b', o' + i * 6, none⟩ = some (.string nm2) ∧ w'.cell? ⟨b', o' + i * 6 + 1, none⟩ = some (.int .i64 kd2) ∧ w'.cell? ⟨b', o' + i * 6 + 2, none⟩ = some (.int .i64 kz2) ∧ w'.cell? ⟨b', o' + i * 6 + 3, none⟩ = some (.int .i64 vz2) ∧ w'.cell? ⟨b', o' + i * 6 + 4, none⟩ = some (.int .i64 mx2) ∧ w'.cell? ⟨b', o' + i * 6 + 5, none⟩ = some (.slice ga' nc2 gc') ∧ (binOp .neq 35 (.agg #[.string nm, .int .i64 kd, .int .i64 kz, .int .i64 vz, .int .i64 mx]) (.agg #[.string nm2, .int .i64 kd2, .int .i64 kz2, .int .i64 vz2, .int .i64 mx2])).run Tryz.prog w' = .ok (.bool true) w' ∧ (convert 28 9 (.slice ga nc gc)).run Tryz.prog w' = .ok (.string data) w' ∧ (convert 28 9 (.slice ga' nc2 gc')).run Tryz.prog w' = .ok (.string data2) w') (by kernel_rfl) ?_ (fun hHeld => ?_)
        · exact CX.out _ ((Kept.refl _ _).drew)
        refine held_take 0 (oi := _) (v := ?_) rfl (by kernel_rfl) (by kernel_rfl) (by kernel_rfl) (fun _ _ _ h => h) (by rfl) (fun w hSw => ?_) (by assumption) ?_
        rotate_left
        · (try dsimp only at hSw); go_simp; try with_reducible rfl
        try simp only [Act.put, List.setIfInBounds_toArray, List.set_cons_zero, List.set_cons_succ]
        refine held_take 1 (oi := _) (v := ?_) rfl (by kernel_rfl) (by kernel_rfl) (by kernel_rfl) (fun _ _ _ h => h) (by rfl) (fun w hSw => ?_) (by assumption) ?_
        rotate_left
        · (try dsimp only at hSw); go_simp; try with_reducible rfl
        try simp only [Act.put, List.setIfInBounds_toArray, List.set_cons_zero, List.set_cons_succ]
        refine held_take 2 (oi := _) (v := ?_) rfl (by kernel_rfl) (by kernel_rfl) (by kernel_rfl) (fun _ _ _ h => h) (by rfl) (fun w hSw => ?_) (by assumption) ?_
        rotate_left
        · (try dsimp only at hSw); go_simp; try with_reducible rfl
        try simp only [Act.put, List.setIfInBounds_toArray, List.set_cons_zero, List.set_cons_succ]
        refine held_take 3 (oi := _) (v := ?_) rfl (by kernel_rfl) (by kernel_rfl) (by kernel_rfl) (fun _ _ _ h => h) (by rfl) (fun w hSw => ?_) (by assumption) ?_
        rotate_left
        · (try dsimp only at hSw); go_simp; try with_reducible rfl
        try simp only [Act.put, List.setIfInBounds_toArray, List.set_cons_zero, List.set_cons_succ]
        refine held_take 4 (oi := _) (v := ?_) rfl (by kernel_rfl) (by kernel_rfl) (by kernel_rfl) (fun _ _ _ h => h) (by rfl) (fun w hSw => ?_) (by assumption) ?_
        rotate_left
        · (try dsimp only at hSw); go_simp; try with_reducible rfl
        try simp only [Act.put, List.setIfInBounds_toArray, List.set_cons_zero, List.set_cons_succ]
        refine held_take 5 (oi := _) (v := ?_) rfl (by kernel_rfl) (by kernel_rfl) (by kernel_rfl) (fun _ _ _ h => h) (by rfl) (fun w hSw => ?_) (by assumption) ?_
        rotate_left
        · (try dsimp only at hSw); go_simp; try with_reducible rfl
        try simp only [Act.put, List.setIfInBounds_toArray, List.set_cons_zero, List.set_cons_succ]
        refine held_take 6 (oi := _) (v := ?_) rfl (by kernel_rfl) (by kernel_rfl) (by kernel_rfl) (fun _ _ _ h => h) (by rfl) (fun w hSw => ?_) (by assumption) ?_
        rotate_left
        · (try dsimp only at hSw); go_simp; try with_reducible rfl
        try simp only [Act.put, List.setIfInBounds_toArray, List.set_cons_zero, List.set_cons_succ]
        refine held_take 7 (oi := _) (v := ?_) rfl (by kernel_rfl) (by kernel_rfl) (by kernel_rfl) (fun _ _ _ h => h) (by rfl) (fun w hSw => ?_) (by assumption) ?_
        rotate_left
        · (try dsimp only at hSw); go_simp; try with_reducible rfl
        try simp only [Act.put, List.setIfInBounds_toArray, List.set_cons_zero, List.set_cons_succ]
        refine held_take 8 (oi := _) (v := ?_) rfl (by kernel_rfl) (by kernel_rfl) (by kernel_rfl) (fun _ _ _ h => h) (by rfl) (fun w hSw => ?_) (by assumption) ?_
        rotate_left
        · (try dsimp only at hSw); go_simp; try with_reducible rfl
        try simp only [Act.put, List.setIfInBounds_toArray, List.set_cons_zero, List.set_cons_succ]
        refine held_take 9 (oi := _) (v := ?_) rfl (by kernel_rfl) (by kernel_rfl) (by kernel_rfl) (fun _ _ _ h => h) (by rfl) (fun w hSw => ?_) (by assumption) ?_
        rotate_left
        · (try dsimp only at hSw); go_simp; try with_reducible rfl
        try simp only [Act.put, List.setIfInBounds_toArray, List.set_cons_zero, List.set_cons_succ]
        refine held_take 10 (oi := _) (v := ?_) rfl (by kernel_rfl) (by kernel_rfl) (by kernel_rfl) (fun _ _ _ h => h) (by rfl) (fun w hSw => ?_) (by assumption) ?_
        rotate_left
        · (try dsimp only at hSw); go_simp; try with_reducible rfl
        try simp only [Act.put, List.setIfInBounds_toArray, List.set_cons_zero, List.set_cons_succ]
        refine held_take 11 (oi := _) (v := ?_) rfl (by kernel_rfl) (by kernel_rfl) (by kernel_rfl) (fun _ _ _ h => h) (by rfl) (fun w hSw => ?_) (by assumption) ?_
        rotate_left
        · (try dsimp only at hSw); go_simp; try with_reducible rfl
        try simp only [Act.put, List.setIfInBounds_toArray, List.set_cons_zero, List.set_cons_succ]
        refine held_take 12 (oi := _) (v := ?_) rfl (by kernel_rfl) (by kernel_rfl) (by kernel_rfl) (fun _ _ _ h => h) (by rfl) (fun w hSw => ?_) (by assumption) ?_
        rotate_left
        · (try dsimp only at hSw); go_simp; try with_reducible rfl
        try simp only [Act.put, List.setIfInBounds_toArray, List.set_cons_zero, List.set_cons_succ]
        refine held_take 13 (oi := _) (v := ?_) rfl (by kernel_rfl) (by kernel_rfl) (by kernel_rfl) (fun _ _ _ h => h) (by rfl) (fun w hSw => ?_) (by assumption) ?_
        rotate_left
        · (try dsimp only at hSw); go_simp; try with_reducible rfl
        try simp only [Act.put, List.setIfInBounds_toArray, List.set_cons_zero, List.set_cons_succ]
        refine held_pass 14 (oi := _) rfl (by kernel_rfl) (by kernel_rfl) (by kernel_rfl) (fun _ _ _ h => h) (by rfl) (by assumption) ?_
        try simp only [Act.put, List.setIfInBounds_toArray, List.set_cons_zero, List.set_cons_succ]
        refine held_pass 15 (oi := _) rfl (by kernel_rfl) (by kernel_rfl) (by kernel_rfl) (fun _ _ _ h => h) (by rfl) (by assumption) ?_
        try simp only [Act.put, List.setIfInBounds_toArray, List.set_cons_zero, List.set_cons_succ]
        refine held_pass 16 (oi := _) rfl (by kernel_rfl) (by kernel_rfl) (by kernel_rfl) (fun _ _ _ h => h) (by rfl) (by assumption) ?_
        try simp only [Act.put, List.setIfInBounds_toArray, List.set_cons_zero, List.set_cons_succ]
        refine held_pass 17 (oi := _) rfl (by kernel_rfl) (by kernel_rfl) (by kernel_rfl) (fun _ _ _ h => h) (by rfl) (by assumption) ?_
        try simp only [Act.put, List.setIfInBounds_toArray, List.set_cons_zero, List.set_cons_succ]
        refine held_pass 18 (oi := _) rfl (by kernel_rfl) (by kernel_rfl) (by kernel_rfl) (fun _ _ _ h => h) (by rfl) (by assumption) ?_
        try simp only [Act.put, List.setIfInBounds_toArray, List.set_cons_zero, List.set_cons_succ]
        refine held_pass 19 (oi := _) rfl (by kernel_rfl) (by kernel_rfl) (by kernel_rfl) (fun _ _ _ h => h) (by rfl) (by assumption) ?_
        try simp only [Act.put, List.setIfInBounds_toArray, List.set_cons_zero, List.set_cons_succ]
        refine held_pass 20 (oi := _) rfl (by kernel_rfl) (by kernel_rfl) (by kernel_rfl) (fun _ _ _ h => h) (by rfl) (by assumption) ?_
        try simp only [Act.put, List.setIfInBounds_toArray, List.set_cons_zero, List.set_cons_succ]
        refine held_pass 21 (oi := _) rfl (by kernel_rfl) (by kernel_rfl) (by kernel_rfl) (fun _ _ _ h => h) (by rfl) (by assumption) ?_
        try simp only [Act.put, List.setIfInBounds_toArray, List.set_cons_zero, List.set_cons_succ]
        refine held_pass 22 (oi := _) rfl (by kernel_rfl) (by kernel_rfl) (by kernel_rfl) (fun _ _ _ h => h) (by rfl) (by assumption) ?_
        try simp only [Act.put, List.setIfInBounds_toArray, List.set_cons_zero, List.set_cons_succ]
        refine held_pass 23 (oi := _) rfl (by kernel_rfl) (by kernel_rfl) (by kernel_rfl) (fun _ _ _ h => h) (by rfl) (by assumption) ?_
        try simp only [Act.put, List.setIfInBounds_toArray, List.set_cons_zero, List.set_cons_succ]
        refine held_pass 24 (oi := _) rfl (by kernel_rfl) (by kernel_rfl) (by kernel_rfl) (fun _ _ _ h => h) (by rfl) (by assumption) ?_
        try simp only [Act.put, List.setIfInBounds_toArray, List.set_cons_zero, List.set_cons_succ]
        refine held_pass 25 (oi := _) rfl (by kernel_rfl) (by kernel_rfl) (by kernel_rfl) (fun _ _ _ h => h) (by rfl) (by assumption) ?_
        try simp only [Act.put, List.setIfInBounds_toArray, List.set_cons_zero, List.set_cons_succ]
        refine held_pass 26 (oi := _) rfl (by kernel_rfl) (by kernel_rfl) (by kernel_rfl) (fun _ _ _ h => h) (by rfl) (by assumption) ?_
        try simp only [Act.put, List.setIfInBounds_toArray, List.set_cons_zero, List.set_cons_succ]
        refine held_pass 27 (oi := _) rfl (by kernel_rfl) (by kernel_rfl) (by kernel_rfl) (fun _ _ _ h => h) (by rfl) (by assumption) ?_
        try simp only [Act.put, List.setIfInBounds_toArray, List.set_cons_zero, List.set_cons_succ]
        refine held_pass 28 (oi := _) rfl (by kernel_rfl) (by kernel_rfl) (by kernel_rfl) (fun _ _ _ h => h) (by rfl) (by assumption) ?_
        try simp only [Act.put, List.setIfInBounds_toArray, List.set_cons_zero, List.set_cons_succ]
        refine held_take 29 (oi := _) (v := ?_) rfl (by kernel_rfl) (by kernel_rfl) (by kernel_rfl) (fun _ _ _ h => h) (by rfl) (fun w hSw => ?_) (by assumption) ?_
        rotate_left
        · (try dsimp only at hSw); go_simp; try with_reducible rfl
        try simp only [Act.put, List.setIfInBounds_toArray, List.set_cons_zero, List.set_cons_succ]
        refine wpAnyH_done (by kernel_rfl) ?_ _
        go_wp2_with fail
        go_ret
        first | exact SameP.no KW.out HNE.out rfl | exact SameP.no KW.out.drew HNE.out rfl | exact SameP.no (KW.out.drewN _) HNE.out rfl
      obtain ⟨rfl, rfl, rfl, rfl, rfl⟩ : nm = nm2 ∧ kd = kd2 ∧ kz = kz2 ∧ vz = vz2 ∧ mx = mx2 := by injection t1 with a b c d e; exact ⟨a, b, c, d, e⟩
      clear t1
      by_cases t2 : data = data2
      case neg =>
        have HNE := Lib.hid (ne_D HPQ.out.1 HPQ.out.2 (fun e => t2 (by cases e; rfl)))
        have hb6 := bytes_ne t2
        go_upto_region 18 with fail
        have CX := Lib.hid (show ∀ w', Kept (fun _ => False) _ w' → w'.cell? ⟨ib, 1, none⟩ = some (.slice (some ⟨b, o, none⟩) n2 dc) ∧ w'.cell? ⟨ib + 1, 1, none⟩ = some (.slice (some ⟨b', o', none⟩) n2 ec) ∧ w'.cell? ⟨b, o + i * 6, none⟩ = some (.string nm) ∧ w'.cell? ⟨b, o + i * 6 + 1, none⟩ = some (.int .i64 kd) ∧ w'.cell? ⟨b, o + i * 6 + 2, none⟩ = some (.int .i64 kz) ∧ w'.cell? ⟨b, o + i * 6 + 3, none⟩ = some (.int .i64 vz) ∧ w'.cell? ⟨b, o + i * 6 + 4, none⟩ = some (.int .i64 mx) ∧ w'.cell? ⟨b, o + i * 6 + 5, none⟩ = some (.slice ga nc gc) ∧ w'.cell? ⟨b', o' + i * 6, none⟩ = some (.string nm) ∧ w'.cell? ⟨b', o' + i * 6 + 1, none⟩ = some (.int .i64 kd) ∧ w'.cell? ⟨b', o' + i * 6 + 2, none⟩ = some (.int .i64 kz) ∧ w'.cell? ⟨b', o' + i * 6 + 3, none⟩ = some (.int .i64 vz) ∧ w'.cell? ⟨b', o' + i * 6 + 4, none⟩ = some (.int .i64 mx) ∧ w'.cell? ⟨b', o' + i * 6 + 5, none⟩ = some (.slice ga' nc2 gc') ∧ (binOp .neq 35 (.agg #[.string nm, .int .i64 kd, .int .i64 kz, .int .i64 vz, .int .i64 mx]) (.agg #[.string nm, .int .i64 kd, .int .i64 kz, .int .i64 vz, .int .i64 mx])).run Tryz.prog w' = .ok (.bool false) w' ∧ (convert 28 9 (.slice ga nc gc)).run Tryz.prog w' = .ok (.string data) w' ∧ (convert 28 9 (.slice ga' nc2 gc')).run Tryz.prog w' = .ok (.string data2) w' from fun w' k => ⟨(k.cell (p := ⟨ib, 1, none⟩) hil (fun e => e)).trans c1, (k.cell (p := ⟨ib + 1, 1, none⟩) hjl (fun e => e)).trans c1', (k.cell (p := ⟨b, o + i * 6, none⟩) hb (fun e => e)).trans d0, (k.cell (p := ⟨b, o + i * 6 + 1, none⟩) hb (fun e => e)).trans d1, (k.cell (p := ⟨b, o + i * 6 + 2, none⟩) hb (fun e => e)).trans d2, (k.cell (p := ⟨b, o + i * 6 + 3, none⟩) hb (fun e => e)).trans d3, (k.cell (p := ⟨b, o + i * 6 + 4, none⟩) hb (fun e => e)).trans d4, (k.cell (p := ⟨b, o + i * 6 + 5, none⟩) hb (fun e => e)).trans d5, (k.cell (p := ⟨b', o' + i * 6, none⟩) hb' (fun e => e)).trans d0', (k.cell (p := ⟨b', o' + i * 6 + 1, none⟩) hb' (fun e => e)).trans d1', (k.cell (p := ⟨b', o' + i * 6 + 2, none⟩) hb' (fun e => e)).trans d2', (k.cell (p := ⟨b', o' + i * 6 + 3, none⟩) hb' (fun e => e)).trans d3', (k.cell (p := ⟨b', o' + i * 6 + 4, none⟩) hb' (fun e => e)).trans d4', (k.cell (p := ⟨b', o' + i * 6 + 5, none⟩) hb' (fun e => e)).trans d5', tm_self _, by rw [← hnc]; exact (BytesAt.kept hgz.1 k (fun _ _ _ e => e)).conv, by rw [← hnc2]; exact (BytesAt.kept hgz'.1 k (fun _ _ _ e => e)).conv⟩)
        clear c1 c1' d0 d1 d2 d3 d4 d5 d0' d1' d2' d3' d4' d5' hcv hcv2 hgz hgz' hnc hnc2 hb hb' t2
        refine wp_region_heldQ (S := fun w' => w'.cell? ⟨ib, 1, none⟩ = some (.slice (some ⟨b, o, none⟩) n2 dc) ∧ w'.cell? ⟨ib + 1, 1, none⟩ = some (.slice (some ⟨b', o', none⟩) n2 ec) ∧ w'.cell? ⟨b, o + i * 6, none⟩ = some (.string nm) ∧ w'.cell? ⟨b, o + i * 6 + 1, none⟩ = some (.int .i64 kd) ∧ w'.cell? ⟨b, o + i * 6 + 2, none⟩ = some (.int .i64 kz) ∧ w'.cell? ⟨b, o + i * 6 + 3, none⟩ = some (.int .i64 vz) ∧ w'.cell? ⟨b, o + i * 6 + 4, none⟩ = some (.int .i64 mx) ∧ w'.cell? ⟨b, o + i * 6 + 5, none⟩ = some (.slice ga nc gc) ∧ w'.cell? ⟨b', o' + i * 6, none⟩ = some (.string nm) ∧ w'.cell? ⟨b', o' + i * 6 + 1, none⟩ = some (.int .i64 kd) ∧ w'.cell? ⟨b', o' + i * 6 + 2, none⟩ = some (.int .i64 kz) ∧ w'.cell? ⟨b', o' + i * 6 + 3, none⟩ = some (.int .i64 vz) ∧ w'.cell? ⟨b', o' + i * 6 + 4, none⟩ = some (.int .i64 mx) ∧ w'.cell? ⟨b', o' + i * 6 + 5, none⟩ = some (.slice ga' nc2 gc') ∧ (binOp .neq 35 (.agg #[.string nm, .int .i64 kd, .int .i64 kz, .int .i64 vz, .int .i64 mx]) (.agg #[.string nm, .int .i64 kd, .int .i64 kz, .int .i64 vz, .int .i64 mx])).run Tryz.prog w' = .ok (.bool false) w' ∧ (convert 28 9 (.slice ga nc gc)).run Tryz.prog w' = .ok (.string data) w' ∧ (convert 28 9 (.slice ga' nc2 gc')).run Tryz.prog w' = .ok (.string data2) w') (by kernel_rfl) ?_ (fun hHeld => ?_)
        · exact CX.out _ ((Kept.refl _ _).drew)
        refine held_take 0 (oi := _) (v := ?_) rfl (by kernel_rfl) (by kernel_rfl) (by kernel_rfl) (fun _ _ _ h => h) (by rfl) (fun w hSw => ?_) (by assumption) ?_
        rotate_left
        · (try dsimp only at hSw); go_simp; try with_reducible rfl
        try simp only [Act.put, List.setIfInBounds_toArray, List.set_cons_zero, List.set_cons_succ]
        refine held_take 1 (oi := _) (v := ?_) rfl (by kernel_rfl) (by kernel_rfl) (by kernel_rfl) (fun _ _ _ h => h) (by rfl) (fun w hSw => ?_) (by assumption) ?_
        rotate_left
        · (try dsimp only at hSw); go_simp; try with_reducible rfl
        try simp only [Act.put, List.setIfInBounds_toArray, List.set_cons_zero, List.set_cons_succ]
        refine held_take 2 (oi := _) (v := ?_) rfl (by kernel_rfl) (by kernel_rfl) (by kernel_rfl) (fun _ _ _ h => h) (by rfl) (fun w hSw => ?_) (by assumption) ?_
        rotate_left
        · (try dsimp only at hSw); go_simp; try with_reducible rfl
        try simp only [Act.put, List.setIfInBounds_toArray, List.set_cons_zero, List.set_cons_succ]
        refine held_take 3 (oi := _) (v := ?_) rfl (by kernel_rfl) (by kernel_rfl) (by kernel_rfl) (fun _ _ _ h => h) (by rfl) (fun w hSw => ?_) (by assumption) ?_
        rotate_left
        · (try dsimp only at hSw); go_simp; try with_reducible rfl
        try simp only [Act.put, List.setIfInBounds_toArray, List.set_cons_zero, List.set_cons_succ]
        refine held_take 4 (oi := _) (v := ?_) rfl (by kernel_rfl) (by kernel_rfl) (by kernel_rfl) (fun _ _ _ h => h) (by rfl) (fun w hSw => ?_) (by assumption) ?_
        rotate_left
        · (try dsimp only at hSw); go_simp; try with_reducible rfl
        try simp only [Act.put, List.setIfInBounds_toArray, List.set_cons_zero, List.set_cons_succ]
        refine held_take 5 (oi := _) (v := ?_) rfl (by kernel_rfl) (by kernel_rfl) (by kernel_rfl) (fun _ _ _ h => h) (by rfl) (fun w hSw => ?_) (by assumption) ?_
        rotate_left
        · (try dsimp only at hSw); go_simp; try with_reducible rfl
        try simp only [Act.put, List.setIfInBounds_toArray, List.set_cons_zero, List.set_cons_succ]
        refine held_take 6 (oi := _) (v := ?_) rfl (by kernel_rfl) (by kernel_rfl) (by kernel_rfl) (fun _ _ _ h => h) (by rfl) (fun w hSw => ?_) (by assumption) ?_
        rotate_left
        · (try dsimp only at hSw); go_simp; try with_reducible rfl
        try simp only [Act.put, List.setIfInBounds_toArray, List.set_cons_zero, List.set_cons_succ]
        refine held_take 7 (oi := _) (v := ?_) rfl (by kernel_rfl) (by kernel_rfl) (by kernel_rfl) (fun _ _ _ h => h) (by rfl) (fun w hSw => ?_) (by assumption) ?_
        rotate_left
        · (try dsimp only at hSw); go_simp; try with_reducible rfl
        try simp only [Act.put, List.setIfInBounds_toArray, List.set_cons_zero, List.set_cons_succ]
        refine held_take 8 (oi := _) (v := ?_) rfl (by kernel_rfl) (by kernel_rfl) (by kernel_rfl) (fun _ _ _ h => h) (by rfl) (fun w hSw => ?_) (by assumption) ?_
        rotate_left
        · (try dsimp only at hSw); go_simp; try with_reducible rfl
        try simp only [Act.put, List.setIfInBounds_toArray, List.set_cons_zero, List.set_cons_succ]
        refine held_take 9 (oi := _) (v := ?_) rfl (by kernel_rfl) (by kernel_rfl) (by kernel_rfl) (fun _ _ _ h => h) (by rfl) (fun w hSw => ?_) (by assumption) ?_
        rotate_left
        · (try dsimp only at hSw); go_simp; try with_reducible rfl
        try simp only [Act.put, List.setIfInBounds_toArray, List.set_cons_zero, List.set_cons_succ]
        refine held_take 10 (oi := _) (v := ?_) rfl (by kernel_rfl) (by kernel_rfl) (by kernel_rfl) (fun _ _ _ h => h) (by rfl) (fun w hSw => ?_) (by assumption) ?_
        rotate_left
        · (try dsimp only at hSw); go_simp; try with_reducible rfl
        try simp only [Act.put, List.setIfInBounds_toArray, List.set_cons_zero, List.set_cons_succ]
        refine held_take 11 (oi := _) (v := ?_) rfl (by kernel_rfl) (by kernel_rfl) (by kernel_rfl) (fun _ _ _ h => h) (by rfl) (fun w hSw => ?_) (by assumption) ?_
        rotate_left
        · (try dsimp only at hSw); go_simp; try with_reducible rfl
        try simp only [Act.put, List.setIfInBounds_toArray, List.set_cons_zero, List.set_cons_succ]
        refine held_take 12 (oi := _) (v := ?_) rfl (by kernel_rfl) (by kernel_rfl) (by kernel_rfl) (fun _ _ _ h => h) (by rfl) (fun w hSw => ?_) (by assumption) ?_
        rotate_left
        · (try dsimp only at hSw); go_simp; try with_reducible rfl
        try simp only [Act.put, List.setIfInBounds_toArray, List.set_cons_zero, List.set_cons_succ]
        refine held_take 13 (oi := _) (v := ?_) rfl (by kernel_rfl) (by kernel_rfl) (by kernel_rfl) (fun _ _ _ h => h) (by rfl) (fun w hSw => ?_) (by assumption) ?_
        rotate_left
        · (try dsimp only at hSw); go_simp; try with_reducible rfl
        try simp only [Act.put, List.setIfInBounds_toArray, List.set_cons_zero, List.set_cons_succ]
        refine held_take 14 (oi := _) (v := ?_) rfl (by kernel_rfl) (by kernel_rfl) (by kernel_rfl) (fun _ _ _ h => h) (by rfl) (fun w hSw => ?_) (by assumption) ?_
        rotate_left
        · (try dsimp only at hSw); go_simp; try with_reducible rfl
        try simp only [Act.put, List.setIfInBounds_toArray, List.set_cons_zero, List.set_cons_succ]
        refine held_take 15 (oi := _) (v := ?_) rfl (by kernel_rfl) (by kernel_rfl) (by kernel_rfl) (fun _ _ _ h => h) (by rfl) (fun w hSw => ?_) (by assumption) ?_
        rotate_left
        · (try dsimp only at hSw); go_simp; try with_reducible rfl
        try simp only [Act.put, List.setIfInBounds_toArray, List.set_cons_zero, List.set_cons_succ]
        refine held_take 16 (oi := _) (v := ?_) rfl (by kernel_rfl) (by kernel_rfl) (by kernel_rfl) (fun _ _ _ h => h) (by rfl) (fun w hSw => ?_) (by assumption) ?_
        rotate_left
        · (try dsimp only at hSw); go_simp; try with_reducible rfl
        try simp only [Act.put, List.setIfInBounds_toArray, List.set_cons_zero, List.set_cons_succ]
        refine held_take 17 (oi := _) (v := ?_) rfl (by kernel_rfl) (by kernel_rfl) (by kernel_rfl) (fun _ _ _ h => h) (by rfl) (fun w hSw => ?_) (by assumption) ?_
        rotate_left
        · (try dsimp only at hSw); go_simp; try with_reducible rfl
        try simp only [Act.put, List.setIfInBounds_toArray, List.set_cons_zero, List.set_cons_succ]
        refine held_take 18 (oi := _) (v := ?_) rfl (by kernel_rfl) (by kernel_rfl) (by kernel_rfl) (fun _ _ _ h => h) (by rfl) (fun w hSw => ?_) (by assumption) ?_
        rotate_left
        · (try dsimp only at hSw); go_simp; try with_reducible rfl
        try simp only [Act.put, List.setIfInBounds_toArray, List.set_cons_zero, List.set_cons_succ]
        refine held_take 19 (oi := _) (v := ?_) rfl (by kernel_rfl) (by kernel_rfl) (by kernel_rfl) (fun _ _ _ h => h) (by rfl) (fun w hSw => ?_) (by assumption) ?_
        rotate_left
        · (try dsimp only at hSw); go_simp; try with_reducible rfl
        try simp only [Act.put, List.setIfInBounds_toArray, List.set_cons_zero, List.set_cons_succ]
        refine held_take 20 (oi := _) (v := ?_) rfl (by kernel_rfl) (by kernel_rfl) (by kernel_rfl) (fun _ _ _ h => h) (by rfl) (fun w hSw => ?_) (by assumption) ?_
        rotate_left
        · (try dsimp only at hSw); go_simp; try with_reducible rfl
        try simp only [Act.put, List.setIfInBounds_toArray, List.set_cons_zero, List.set_cons_succ]
        refine held_take 21 (oi := _) (v := ?_) rfl (by kernel_rfl) (by kernel_rfl) (by kernel_rfl) (fun _ _ _ h => h) (by rfl) (fun w hSw => ?_) (by assumption) ?_
        rotate_left
        · (try dsimp only at hSw); go_simp; try with_reducible rfl
        try simp only [Act.put, List.setIfInBounds_toArray, List.set_cons_zero, List.set_cons_succ]
        refine held_take 22 (oi := _) (v := ?_) rfl (by kernel_rfl) (by kernel_rfl) (by kernel_rfl) (fun _ _ _ h => h) (by rfl) (fun w hSw => ?_) (by assumption) ?_
        rotate_left
        · (try dsimp only at hSw); go_simp; try with_reducible rfl
        try simp only [Act.put, List.setIfInBounds_toArray, List.set_cons_zero, List.set_cons_succ]
        refine held_take 23 (oi := _) (v := ?_) rfl (by kernel_rfl) (by kernel_rfl) (by kernel_rfl) (fun _ _ _ h => h) (by rfl) (fun w hSw => ?_) (by assumption) ?_
        rotate_left
        · (try dsimp only at hSw); go_simp; try with_reducible rfl
        try simp only [Act.put, List.setIfInBounds_toArray, List.set_cons_zero, List.set_cons_succ]
        refine held_take 24 (oi := _) (v := ?_) rfl (by kernel_rfl) (by kernel_rfl) (by kernel_rfl) (fun _ _ _ h => h) (by rfl) (fun w hSw => ?_) (by assumption) ?_
        rotate_left
        · (try dsimp only at hSw); go_simp; try with_reducible rfl
        try simp only [Act.put, List.setIfInBounds_toArray, List.set_cons_zero, List.set_cons_succ]
        refine held_take 25 (oi := _) (v := ?_) rfl (by kernel_rfl) (by kernel_rfl) (by kernel_rfl) (fun _ _ _ h => h) (by rfl) (fun w hSw => ?_) (by assumption) ?_
        rotate_left
        · (try dsimp only at hSw); go_simp; try with_reducible rfl
        try simp only [Act.put, List.setIfInBounds_toArray, List.set_cons_zero, List.set_cons_succ]
        refine held_take 26 (oi := _) (v := ?_) rfl (by kernel_rfl) (by kernel_rfl) (by kernel_rfl) (fun _ _ _ h => h) (by rfl) (fun w hSw => ?_) (by assumption) ?_
        rotate_left
        · (try dsimp only at hSw); go_simp; try with_reducible rfl
        try simp only [Act.put, List.setIfInBounds_toArray, List.set_cons_zero, List.set_cons_succ]
        refine held_take 27 (oi := _) (v := ?_) rfl (by kernel_rfl) (by kernel_rfl) (by kernel_rfl) (fun _ _ _ h => h) (by rfl) (fun w hSw => ?_) (by assumption) ?_
        rotate_left
        · (try dsimp only at hSw); go_simp; try with_reducible rfl
        try simp only [Act.put, List.setIfInBounds_toArray, List.set_cons_zero, List.set_cons_succ]
        refine held_take 28 (oi := _) (v := ?_) rfl (by kernel_rfl) (by kernel_rfl) (by kernel_rfl) (fun _ _ _ h => h) (by rfl) (fun w hSw => ?_) (by assumption) ?_
        rotate_left
        · (try dsimp only at hSw); go_simp; try with_reducible rfl
        try simp only [Act.put, List.setIfInBounds_toArray, List.set_cons_zero, List.set_cons_succ]
        refine held_take 29 (oi := _) (v := ?_) rfl (by kernel_rfl) (by kernel_rfl) (by kernel_rfl) (fun _ _ _ h => h) (by rfl) (fun w hSw => ?_) (by assumption) ?_
        rotate_left
        · (try dsimp only at hSw); go_simp; try with_reducible rfl
        try simp only [Act.put, List.setIfInBounds_toArray, List.set_cons_zero, List.set_cons_succ]
        refine wpAnyH_done (by kernel_rfl) ?_ _
        go_wp2_with fail
        go_ret
        first | exact SameP.no KW.out HNE.out rfl | exact SameP.no KW.out.drew HNE.out rfl | exact SameP.no (KW.out.drewN _) HNE.out rfl
      subst t2
      have hb6 := bytes_self data
      go_upto_region 18 with fail
      have CX := Lib.hid (show ∀ w', Kept (fun _ => False) _ w' → w'.cell? ⟨ib, 1, none⟩ = some (.slice (some ⟨b, o, none⟩) n2 dc) ∧ w'.cell? ⟨ib + 1, 1, none⟩ = some (.slice (some ⟨b', o', none⟩) n2 ec) ∧ w'.cell? ⟨b, o + i * 6, none⟩ = some (.string nm) ∧ w'.cell? ⟨b, o + i * 6 + 1, none⟩ = some (.int .i64 kd) ∧ w'.cell? ⟨b, o + i * 6 + 2, none⟩ = some (.int .i64 kz) ∧ w'.cell? ⟨b, o + i * 6 + 3, none⟩ = some (.int .i64 vz) ∧ w'.cell? ⟨b, o + i * 6 + 4, none⟩ = some (.int .i64 mx) ∧ w'.cell? ⟨b, o + i * 6 + 5, none⟩ = some (.slice ga nc gc) ∧ w'.cell? ⟨b', o' + i * 6, none⟩ = some (.string nm) ∧ w'.cell? ⟨b', o' + i * 6 + 1, none⟩ = some (.int .i64 kd) ∧ w'.cell? ⟨b', o' + i * 6 + 2, none⟩ = some (.int .i64 kz) ∧ w'.cell? ⟨b', o' + i * 6 + 3, none⟩ = some (.int .i64 vz) ∧ w'.cell? ⟨b', o' + i * 6 + 4, none⟩ = some (.int .i64 mx) ∧ w'.cell? ⟨b', o' + i * 6 + 5, none⟩ = some (.slice ga' nc2 gc') ∧ (binOp .neq 35 (.agg #[.string nm, .int .i64 kd, .int .i64 kz, .int .i64 vz, .int .i64 mx]) (.agg #[.string nm, .int .i64 kd, .int .i64 kz, .int .i64 vz, .int .i64 mx])).run Tryz.prog w' = .ok (.bool false) w' ∧ (convert 28 9 (.slice ga nc gc)).run Tryz.prog w' = .ok (.string data) w' ∧ (convert 28 9 (.slice ga' nc2 gc')).run Tryz.prog w' = .ok (.string data) w' from fun w' k => ⟨(k.cell (p := ⟨ib, 1, none⟩) hil (fun e => e)).trans c1, (k.cell (p := ⟨ib + 1, 1, none⟩) hjl (fun e => e)).trans c1', (k.cell (p := ⟨b, o + i * 6, none⟩) hb (fun e => e)).trans d0, (k.cell (p := ⟨b, o + i * 6 + 1, none⟩) hb (fun e => e)).trans d1, (k.cell (p := ⟨b, o + i * 6 + 2, none⟩) hb (fun e => e)).trans d2, (k.cell (p := ⟨b, o + i * 6 + 3, none⟩) hb (fun e => e)).trans d3, (k.cell (p := ⟨b, o + i * 6 + 4, none⟩) hb (fun e => e)).trans d4, (k.cell (p := ⟨b, o + i * 6 + 5, none⟩) hb (fun e => e)).trans d5, (k.cell (p := ⟨b', o' + i * 6, none⟩) hb' (fun e => e)).trans d0', (k.cell (p := ⟨b', o' + i * 6 + 1, none⟩) hb' (fun e => e)).trans d1', (k.cell (p := ⟨b', o' + i * 6 + 2, none⟩) hb' (fun e => e)).trans d2', (k.cell (p := ⟨b', o' + i * 6 + 3, none⟩) hb' (fun e => e)).trans d3', (k.cell (p := ⟨b', o' + i * 6 + 4, none⟩) hb' (fun e => e)).trans d4', (k.cell (p := ⟨b', o' + i * 6 + 5, none⟩) hb' (fun e => e)).trans d5', tm_self _, by rw [← hnc]; exact (BytesAt.kept hgz.1 k (fun _ _ _ e => e)).conv, by rw [← hnc2]; exact (BytesAt.kept hgz'.1 k (fun _ _ _ e => e)).conv⟩)
      clear c1 c1' d0 d1 d2 d3 d4 d5 d0' d1' d2' d3' d4' d5' hcv hcv2 hgz hgz' hnc hnc2 hb hb'
      refine wp_region_heldQ (S := fun w' => w'.cell? ⟨ib, 1, none⟩ = some (.slice (some ⟨b, o, none⟩) n2 dc) ∧ w'.cell? ⟨ib + 1, 1, none⟩ = some (.slice (some ⟨b', o', none⟩) n2 ec) ∧ w'.cell? ⟨b, o + i * 6, none⟩ = some (.string nm) ∧ w'.cell? ⟨b, o + i * 6 + 1, none⟩ = some (.int .i64 kd) ∧ w'.cell? ⟨b, o + i * 6 + 2, none⟩ = some (.int .i64 kz) ∧ w'.cell? ⟨b, o + i * 6 + 3, none⟩ = some (.int .i64 vz) ∧ w'.cell? ⟨b, o + i * 6 + 4, none⟩ = some (.int .i64 mx) ∧ w'.cell? ⟨b, o + i * 6 + 5, none⟩ = some (.slice ga nc gc) ∧ w'.cell? ⟨b', o' + i * 6, none⟩ = some (.string nm) ∧ w'.cell? ⟨b', o' + i * 6 + 1, none⟩ = some (.int .i64 kd) ∧ w'.cell? ⟨b', o' + i * 6 + 2, none⟩ = some (.int .i64 kz) ∧ w'.cell? ⟨b', o' + i * 6 + 3, none⟩ = some (.int .i64 vz) ∧ w'.cell? ⟨b', o' + i * 6 + 4, none⟩ = some (.int .i64 mx) ∧ w'.cell? ⟨b', o' + i * 6 + 5, none⟩ = some (.slice ga' nc2 gc') ∧ (binOp .neq 35 (.agg #[.string nm, .int .i64 kd, .int .i64 kz, .int .i64 vz, .int .i64 mx]) (.agg #[.string nm, .int .i64 kd, .int .i64 kz, .int .i64 vz, .int .i64 mx])).run Tryz.prog w' = .ok (.bool false) w' ∧ (convert 28 9 (.slice ga nc gc)).run Tryz.prog w' = .ok (.string data) w' ∧ (convert 28 9 (.slice ga' nc2 gc')).run Tryz.prog w' = .ok (.string data) w') (by kernel_rfl) ?_ (fun hHeld => ?_)
      · exact CX.out _ ((Kept.refl _ _).drew)
      refine held_take 0 (oi := _) (v := ?_) rfl (by kernel_rfl) (by kernel_rfl) (by kernel_rfl) (fun _ _ _ h => h) (by rfl) (fun w hSw => ?_) (by assumption) ?_
      rotate_left
      · (try dsimp only at hSw); go_simp; try with_reducible rfl
      try simp only [Act.put, List.setIfInBounds_toArray, List.set_cons_zero, List.set_cons_succ]
      refine held_take 1 (oi := _) (v := ?_) rfl (by kernel_rfl) (by kernel_rfl) (by kernel_rfl) (fun _ _ _ h => h) (by rfl) (fun w hSw => ?_) (by assumption) ?_
      rotate_left
      · (try dsimp only at hSw); go_simp; try with_reducible rfl
      try simp only [Act.put, List.setIfInBounds_toArray, List.set_cons_zero, List.set_cons_succ]
      refine held_take 2 (oi := _) (v := ?_) rfl (by kernel_rfl) (by kernel_rfl) (by kernel_rfl) (fun _ _ _ h => h) (by rfl) (fun w hSw => ?_) (by assumption) ?_
      rotate_left
      · (try dsimp only at hSw); go_simp; try with_reducible rfl
      try simp only [Act.put, List.setIfInBounds_toArray, List.set_cons_zero, List.set_cons_succ]
      refine held_take 3 (oi := _) (v := ?_) rfl (by kernel_rfl) (by kernel_rfl) (by kernel_rfl) (fun _ _ _ h => h) (by rfl) (fun w hSw => ?_) (by assumption) ?_
      rotate_left
      · (try dsimp only at hSw); go_simp; try with_reducible rfl
      try simp only [Act.put, List.setIfInBounds_toArray, List.set_cons_zero, List.set_cons_succ]
      refine held_take 4 (oi := _) (v := ?_) rfl (by kernel_rfl) (by kernel_rfl) (by kernel_rfl) (fun _ _ _ h => h) (by rfl) (fun w hSw => ?_) (by assumption) ?_
      rotate_left
      · (try dsimp only at hSw); go_simp; try with_reducible rfl
      try simp only [Act.put, List.setIfInBounds_toArray, List.set_cons_zero, List.set_cons_succ]
      refine held_take 5 (oi := _) (v := ?_) rfl (by kernel_rfl) (by kernel_rfl) (by kernel_rfl) (fun _ _ _ h => h) (by rfl) (fun w hSw => ?_) (by assumption) ?_
      rotate_left
      · (try dsimp only at hSw); go_simp; try with_reducible rfl
      try simp only [Act.put, List.setIfInBounds_toArray, List.set_cons_zero, List.set_cons_succ]
      refine held_take 6 (oi := _) (v := ?_) rfl (by kernel_rfl) (by kernel_rfl) (by kernel_rfl) (fun _ _ _ h => h) (by rfl) (fun w hSw => ?_) (by assumption) ?_
      rotate_left
      · (try dsimp only at hSw); go_simp; try with_reducible rfl
      try simp only [Act.put, List.setIfInBounds_toArray, List.set_cons_zero, List.set_cons_succ]
      refine held_take 7 (oi := _) (v := ?_) rfl (by kernel_rfl) (by kernel_rfl) (by kernel_rfl) (fun _ _ _ h => h) (by rfl) (fun w hSw => ?_) (by assumption) ?_
      rotate_left
      · (try dsimp only at hSw); go_simp; try with_reducible rfl
      try simp only [Act.put, List.setIfInBounds_toArray, List.set_cons_zero, List.set_cons_succ]
      refine held_take 8 (oi := _) (v := ?_) rfl (by kernel_rfl) (by kernel_rfl) (by kernel_rfl) (fun _ _ _ h => h) (by rfl) (fun w hSw => ?_) (by assumption) ?_
      rotate_left
      · (try dsimp only at hSw); go_simp; try with_reducible rfl
      try simp only [Act.put, List.setIfInBounds_toArray, List.set_cons_zero, List.set_cons_succ]
      refine held_take 9 (oi := _) (v := ?_) rfl (by kernel_rfl) (by kernel_rfl) (by kernel_rfl) (fun _ _ _ h => h) (by rfl) (fun w hSw => ?_) (by assumption) ?_
      rotate_left
      · (try dsimp only at hSw); go_simp; try with_reducible rfl
      try simp only [Act.put, List.setIfInBounds_toArray, List.set_cons_zero, List.set_cons_succ]
      refine held_take 10 (oi := _) (v := ?_) rfl (by kernel_rfl) (by kernel_rfl) (by kernel_rfl) (fun _ _ _ h => h) (by rfl) (fun w hSw => ?_) (by assumption) ?_
      rotate_left
      · (try dsimp only at hSw); go_simp; try with_reducible rfl
      try simp only [Act.put, List.setIfInBounds_toArray, List.set_cons_zero, List.set_cons_succ]
      refine held_take 11 (oi := _) (v := ?_) rfl (by kernel_rfl) (by kernel_rfl) (by kernel_rfl) (fun _ _ _ h => h) (by rfl) (fun w hSw => ?_) (by assumption) ?_
      rotate_left
      · (try dsimp only at hSw); go_simp; try with_reducible rfl
      try simp only [Act.put, List.setIfInBounds_toArray, List.set_cons_zero, List.set_cons_succ]
      refine held_take 12 (oi := _) (v := ?_) rfl (by kernel_rfl) (by kernel_rfl) (by kernel_rfl) (fun _ _ _ h => h) (by rfl) (fun w hSw => ?_) (by assumption) ?_
      rotate_left
      · (try dsimp only at hSw); go_simp; try with_reducible rfl
      try simp only [Act.put, List.setIfInBounds_toArray, List.set_cons_zero, List.set_cons_succ]
      refine held_take 13 (oi := _) (v := ?_) rfl (by kernel_rfl) (by kernel_rfl) (by kernel_rfl) (fun _ _ _ h => h) (by rfl) (fun w hSw => ?_) (by assumption) ?_
      rotate_left
      · (try dsimp only at hSw); go_simp; try with_reducible rfl
      try simp only [Act.put, List.setIfInBounds_toArray, List.set_cons_zero, List.set_cons_succ]
      refine held_take 14 (oi := _) (v := ?_) rfl (by kernel_rfl) (by kernel_rfl) (by kernel_rfl) (fun _ _ _ h => h) (by rfl) (fun w hSw => ?_) (by assumption) ?_
      rotate_left
      · (try dsimp only at hSw); go_simp; try with_reducible rfl
      try simp only [Act.put, List.setIfInBounds_toArray, List.set_cons_zero, List.set_cons_succ]
      refine held_take 15 (oi := _) (v := ?_) rfl (by kernel_rfl) (by kernel_rfl) (by kernel_rfl) (fun _ _ _ h => h) (by rfl) (fun w hSw => ?_) (by assumption) ?_
      rotate_left
      · (try dsimp only at hSw); go_simp; try with_reducible rfl
      try simp only [Act.put, List.setIfInBounds_toArray, List.set_cons_zero, List.set_cons_succ]
      refine held_take 16 (oi := _) (v := ?_) rfl (by kernel_rfl) (by kernel_rfl) (by kernel_rfl) (fun _ _ _ h => h) (by rfl) (fun w hSw => ?_) (by assumption) ?_
      rotate_left
      · (try dsimp only at hSw); go_simp; try with_reducible rfl
      try simp only [Act.put, List.setIfInBounds_toArray, List.set_cons_zero, List.set_cons_succ]
      refine held_take 17 (oi := _) (v := ?_) rfl (by kernel_rfl) (by kernel_rfl) (by kernel_rfl) (fun _ _ _ h => h) (by rfl) (fun w hSw => ?_) (by assumption) ?_
      rotate_left
      · (try dsimp only at hSw); go_simp; try with_reducible rfl
      try simp only [Act.put, List.setIfInBounds_toArray, List.set_cons_zero, List.set_cons_succ]
      refine held_take 18 (oi := _) (v := ?_) rfl (by kernel_rfl) (by kernel_rfl) (by kernel_rfl) (fun _ _ _ h => h) (by rfl) (fun w hSw => ?_) (by assumption) ?_
      rotate_left
      · (try dsimp only at hSw); go_simp; try with_reducible rfl
      try simp only [Act.put, List.setIfInBounds_toArray, List.set_cons_zero, List.set_cons_succ]
      refine held_take 19 (oi := _) (v := ?_) rfl (by kernel_rfl) (by kernel_rfl) (by kernel_rfl) (fun _ _ _ h => h) (by rfl) (fun w hSw => ?_) (by assumption) ?_
      rotate_left
      · (try dsimp only at hSw); go_simp; try with_reducible rfl
      try simp only [Act.put, List.setIfInBounds_toArray, List.set_cons_zero, List.set_cons_succ]
      refine held_take 20 (oi := _) (v := ?_) rfl (by kernel_rfl) (by kernel_rfl) (by kernel_rfl) (fun _ _ _ h => h) (by rfl) (fun w hSw => ?_) (by assumption) ?_
      rotate_left
      · (try dsimp only at hSw); go_simp; try with_reducible rfl
      try simp only [Act.put, List.setIfInBounds_toArray, List.set_cons_zero, List.set_cons_succ]
      refine held_take 21 (oi := _) (v := ?_) rfl (by kernel_rfl) (by kernel_rfl) (by kernel_rfl) (fun _ _ _ h => h) (by rfl) (fun w hSw => ?_) (by assumption) ?_
      rotate_left
      · (try dsimp only at hSw); go_simp; try with_reducible rfl
      try simp only [Act.put, List.setIfInBounds_toArray, List.set_cons_zero, List.set_cons_succ]
      refine held_take 22 (oi := _) (v := ?_) rfl (by kernel_rfl) (by kernel_rfl) (by kernel_rfl) (fun _ _ _ h => h) (by rfl) (fun w hSw => ?_) (by assumption) ?_
      rotate_left
      · (try dsimp only at hSw); go_simp; try with_reducible rfl
      try simp only [Act.put, List.setIfInBounds_toArray, List.set_cons_zero, List.set_cons_succ]
      refine held_take 23 (oi := _) (v := ?_) rfl (by kernel_rfl) (by kernel_rfl) (by kernel_rfl) (fun _ _ _ h => h) (by rfl) (fun w hSw => ?_) (by assumption) ?_
      rotate_left
      · (try dsimp only at hSw); go_simp; try with_reducible rfl
      try simp only [Act.put, List.setIfInBounds_toArray, List.set_cons_zero, List.set_cons_succ]
      refine held_take 24 (oi := _) (v := ?_) rfl (by kernel_rfl) (by kernel_rfl) (by kernel_rfl) (fun _ _ _ h => h) (by rfl) (fun w hSw => ?_) (by assumption) ?_
      rotate_left
      · (try dsimp only at hSw); go_simp; try with_reducible rfl
      try simp only [Act.put, List.setIfInBounds_toArray, List.set_cons_zero, List.set_cons_succ]
      refine held_take 25 (oi := _) (v := ?_) rfl (by kernel_rfl) (by kernel_rfl) (by kernel_rfl) (fun _ _ _ h => h) (by rfl) (fun w hSw => ?_) (by assumption) ?_
      rotate_left
      · (try dsimp only at hSw); go_simp; try with_reducible rfl
      try simp only [Act.put, List.setIfInBounds_toArray, List.set_cons_zero, List.set_cons_succ]
      refine held_take 26 (oi := _) (v := ?_) rfl (by kernel_rfl) (by kernel_rfl) (by kernel_rfl) (fun _ _ _ h => h) (by rfl) (fun w hSw => ?_) (by assumption) ?_
      rotate_left
      · (try dsimp only at hSw); go_simp; try with_reducible rfl
      try simp only [Act.put, List.setIfInBounds_toArray, List.set_cons_zero, List.set_cons_succ]
      refine held_take 27 (oi := _) (v := ?_) rfl (by kernel_rfl) (by kernel_rfl) (by kernel_rfl) (fun _ _ _ h => h) (by rfl) (fun w hSw => ?_) (by assumption) ?_
      rotate_left
      · (try dsimp only at hSw); go_simp; try with_reducible rfl
      try simp only [Act.put, List.setIfInBounds_toArray, List.set_cons_zero, List.set_cons_succ]
      refine held_take 28 (oi := _) (v := ?_) rfl (by kernel_rfl) (by kernel_rfl) (by kernel_rfl) (fun _ _ _ h => h) (by rfl) (fun w hSw => ?_) (by assumption) ?_
      rotate_left
      · (try dsimp only at hSw); go_simp; try with_reducible rfl
      try simp only [Act.put, List.setIfInBounds_toArray, List.set_cons_zero, List.set_cons_succ]
      refine held_take 29 (oi := _) (v := ?_) rfl (by kernel_rfl) (by kernel_rfl) (by kernel_rfl) (fun _ _ _ h => h) (by rfl) (fun w hSw => ?_) (by assumption) ?_
      rotate_left
      · (try dsimp only at hSw); go_simp; try with_reducible rfl
      try simp only [Act.put, List.setIfInBounds_toArray, List.set_cons_zero, List.set_cons_succ]
      refine wpAnyH_done (by kernel_rfl) ?_ _
      go_wp2_with fail
      refine ⟨⟨i + 1, hlt, rfl, fun j hj => ?_, ?_⟩, by simp only [intOf]; omega⟩
      · by_cases ej : j = i
        · subst ej
          rw [HPQ.out.1, HPQ.out.2]
        · exact R.out.1 j (by omega)
      · first | exact R.out.2 | exact R.out.2.drew | exact R.out.2.drewN _
    · obtain rfl : n2 = i := by omega
      have HD := Lib.hid (show x.D = y.D from list_eq (by rw [HN.out.2.1, HM.out.2.1]) (fun j hj => R.out.1 j (by rw [← HN.out.2.1]; exact hj)))
      have HWD := Lib.hid R.out.2
      clear hlt hi hk c1'
      go_wp2_with fail
      clear c1 R
      go_loopw [10] (fun s10 wr' => ∃ i : Nat, i ≤ n3 ∧ s10 = .int .i64 (i : Int) ∧ (∀ j, j < i → x.L[j]? = y.L[j]?) ∧ Kept (fun _ => False) w0 wr') (fun s10 _ => n3 - (intOf s10).toNat)
      case atStart => exact ⟨0, Nat.zero_le _, rfl, fun j hj => absurd hj (Nat.not_lt_zero _), HWD.out⟩
      case' round =>
        obtain ⟨i, hi, rfl, hall, hk⟩ := hrel
        have R := Lib.hid (And.intro hall hk)
        have c2 := (CI.out _ hk).1.2.2
        have c2' := (CI.out _ hk).2.2.2
        have hjl := Nat.lt_of_lt_of_le HSZ.out hk.size
        have hil := Nat.lt_of_succ_lt hjl
        clear hall
      by_cases hlt : i < n3
      · have hin : (i : Int) < (n3 : Int) := by omega
        obtain ⟨p, hp⟩ : ∃ p, x.L[i]? = some p := ⟨_, List.getElem?_eq_getElem (by rw [HN.out.2.2]; exact hlt)⟩
        obtain ⟨q, hq⟩ : ∃ q, y.L[i]? = some q := ⟨_, List.getElem?_eq_getElem (by rw [HM.out.2.2]; exact hlt)⟩
        have HPQ := Lib.hid (And.intro hp hq)
        obtain ⟨b, o, rfl, hb, -, d0, d1, d2⟩ := ((RL.out.keep K0.out).keep hk).link hp
        obtain ⟨b', o', rfl, hb', -, d0', d1', d2'⟩ := ((RL'.out.keep K0.out).keep hk).link hq
        obtain ⟨nm, pg, vr⟩ := p
        obtain ⟨nm2, pg2, vr2⟩ := q
        simp only at d0 d1 d2 d0' d1' d2'
        have KW := Lib.hid (K0.out.trans hk (fun _ _ e => e))
        clear hp hq hk
        by_cases t1 : nm = nm2
        case neg =>
          have HNE := Lib.hid (ne_L HPQ.out.1 HPQ.out.2 (fun e => t1 (by cases e; rfl)))
          have hb6 := bytes_ne t1
          go_upto_region 23 with fail
          have CX := Lib.hid (show ∀ w', Kept (fun _ => False) _ w' → w'.cell? ⟨ib, 2, none⟩ = some (.slice (some ⟨b, o, none⟩) n3 lc) ∧ w'.cell? ⟨ib + 1, 2, none⟩ = some (.slice (some ⟨b', o', none⟩) n3 mc) ∧ w'.cell? ⟨b, o + i * 3, none⟩ = some (.string nm) ∧ w'.cell? ⟨b, o + i * 3 + 1, none⟩ = some (.string pg) ∧ w'.cell? ⟨b, o + i * 3 + 2, none⟩ = some (.int .i64 vr) ∧ w'.cell? ⟨b', o' + i * 3, none⟩ = some (.string nm2) ∧ w'.cell? ⟨b', o' + i * 3 + 1, none⟩ = some (.string pg2) ∧ w'.cell? ⟨b', o' + i * 3 + 2, none⟩ = some (.int .i64 vr2) from fun w' k => ⟨(k.cell (p := ⟨ib, 2, none⟩) hil (fun e => e)).trans c2, (k.cell (p := ⟨ib + 1, 2, none⟩) hjl (fun e => e)).trans c2', (k.cell (p := ⟨b, o + i * 3, none⟩) hb (fun e => e)).trans d0, (k.cell (p := ⟨b, o + i * 3 + 1, none⟩) hb (fun e => e)).trans d1, (k.cell (p := ⟨b, o + i * 3 + 2, none⟩) hb (fun e => e)).trans d2, (k.cell (p := ⟨b', o' + i * 3, none⟩) hb' (fun e => e)).trans d0', (k.cell (p := ⟨b', o' + i * 3 + 1, none⟩) hb' (fun e => e)).trans d1', (k.cell (p := ⟨b', o' + i * 3 + 2, none⟩) hb' (fun e => e)).trans d2'⟩)
          clear c2 c2' d0 d1 d2 d0' d1' d2' hb hb' t1
          refine wp_region_heldQ (S := fun w' => w'.cell? ⟨ib, 2, none⟩ = some (.slice (some ⟨b, o, none⟩) n3 lc) ∧ w'.cell? ⟨ib + 1, 2, none⟩ = some (.slice (some ⟨b', o', none⟩) n3 mc) ∧ w'.cell? ⟨b, o + i * 3, none⟩ = some (.string nm) ∧ w'.cell? ⟨b, o + i * 3 + 1, none⟩ = some (.string pg) ∧ w'.cell? ⟨b, o + i * 3 + 2, none⟩ = some (.int .i64 vr) ∧ w'.cell? ⟨b', o' + i * 3, none⟩ = some (.string nm2) ∧ w'.cell? ⟨b', o' + i * 3 + 1, none⟩ = some (.string pg2) ∧ w'.cell? ⟨b', o' + i * 3 + 2, none⟩ = some (.int .i64 vr2)) (by kernel_rfl) ?_ (fun hHeld => ?_)
          · exact CX.out _ ((Kept.refl _ _).drew)
          refine held_take 0 (oi := _) (v := ?_) rfl (by kernel_rfl) (by kernel_rfl) (by kernel_rfl) (fun _ _ _ h => h) (by rfl) (fun w hSw => ?_) (by assumption) ?_
          rotate_left
          · (try dsimp only at hSw); go_simp; try with_reducible rfl
          try simp only [Act.put, List.setIfInBounds_toArray, List.set_cons_zero, List.set_cons_succ]
          refine held_take 1 (oi := _) (v := ?_) rfl (by kernel_rfl) (by kernel_rfl) (by kernel_rfl) (fun _ _ _ h => h) (by rfl) (fun w hSw => ?_) (by assumption) ?_
          rotate_left
          · (try dsimp only at hSw); go_simp; try with_reducible rfl
          try simp only [Act.put, List.setIfInBounds_toArray, List.set_cons_zero, List.set_cons_succ]
          refine held_take 2 (oi := _) (v := ?_) rfl (by kernel_rfl) (by kernel_rfl) (by kernel_rfl) (fun _ _ _ h => h) (by rfl) (fun w hSw => ?_) (by assumption) ?_
          rotate_left
          · (try dsimp only at hSw); go_simp; try with_reducible rfl
          try simp only [Act.put, List.setIfInBounds_toArray, List.set_cons_zero, List.set_cons_succ]
          refine held_take 3 (oi := _) (v := ?_) rfl (by kernel_rfl) (by kernel_rfl) (by kernel_rfl) (fun _ _ _ h => h) (by rfl) (fun w hSw => ?_) (by assumption) ?_
          rotate_left
          · (try dsimp only at hSw); go_simp; try with_reducible rfl
          try simp only [Act.put, List.setIfInBounds_toArray, List.set_cons_zero, List.set_cons_succ]
          refine held_take 4 (oi := _) (v := ?_) rfl (by kernel_rfl) (by kernel_rfl) (by kernel_rfl) (fun _ _ _ h => h) (by rfl) (fun w hSw => ?_) (by assumption) ?_
          rotate_left
          · (try dsimp only at hSw); go_simp; try with_reducible rfl
          try simp only [Act.put, List.setIfInBounds_toArray, List.set_cons_zero, List.set_cons_succ]
          refine held_take 5 (oi := _) (v := ?_) rfl (by kernel_rfl) (by kernel_rfl) (by kernel_rfl) (fun _ _ _ h => h) (by rfl) (fun w hSw => ?_) (by assumption) ?_
          rotate_left
          · (try dsimp only at hSw); go_simp; try with_reducible rfl
          try simp only [Act.put, List.setIfInBounds_toArray, List.set_cons_zero, List.set_cons_succ]
          refine held_take 6 (oi := _) (v := ?_) rfl (by kernel_rfl) (by kernel_rfl) (by kernel_rfl) (fun _ _ _ h => h) (by rfl) (fun w hSw => ?_) (by assumption) ?_
          rotate_left
          · (try dsimp only at hSw); go_simp; try with_reducible rfl
          try simp only [Act.put, List.setIfInBounds_toArray, List.set_cons_zero, List.set_cons_succ]
          refine held_take 7 (oi := _) (v := ?_) rfl (by kernel_rfl) (by kernel_rfl) (by kernel_rfl) (fun _ _ _ h => h) (by rfl) (fun w hSw => ?_) (by assumption) ?_
          rotate_left
          · (try dsimp only at hSw); go_simp; try with_reducible rfl
          try simp only [Act.put, List.setIfInBounds_toArray, List.set_cons_zero, List.set_cons_succ]
          refine held_take 8 (oi := _) (v := ?_) rfl (by kernel_rfl) (by kernel_rfl) (by kernel_rfl) (fun _ _ _ h => h) (by rfl) (fun w hSw => ?_) (by assumption) ?_
          rotate_left
          · (try dsimp only at hSw); go_simp; try with_reducible rfl
          try simp only [Act.put, List.setIfInBounds_toArray, List.set_cons_zero, List.set_cons_succ]
          refine held_take 9 (oi := _) (v := ?_) rfl (by kernel_rfl) (by kernel_rfl) (by kernel_rfl) (fun _ _ _ h => h) (by rfl) (fun w hSw => ?_) (by assumption) ?_
          rotate_left
          · (try dsimp only at hSw); go_simp; try with_reducible rfl
          try simp only [Act.put, List.setIfInBounds_toArray, List.set_cons_zero, List.set_cons_succ]
          refine held_take 10 (oi := _) (v := ?_) rfl (by kernel_rfl) (by kernel_rfl) (by kernel_rfl) (fun _ _ _ h => h) (by rfl) (fun w hSw => ?_) (by assumption) ?_
          rotate_left
          · (try dsimp only at hSw); go_simp; try with_reducible rfl
          try simp only [Act.put, List.setIfInBounds_toArray, List.set_cons_zero, List.set_cons_succ]
          refine held_take 11 (oi := _) (v := ?_) rfl (by kernel_rfl) (by kernel_rfl) (by kernel_rfl) (fun _ _ _ h => h) (by rfl) (fun w hSw => ?_) (by assumption) ?_
          rotate_left
          · (try dsimp only at hSw); go_simp; try with_reducible rfl
          try simp only [Act.put, List.setIfInBounds_toArray, List.set_cons_zero, List.set_cons_succ]
          refine held_take 12 (oi := _) (v := ?_) rfl (by kernel_rfl) (by kernel_rfl) (by kernel_rfl) (fun _ _ _ h => h) (by rfl) (fun w hSw => ?_) (by assumption) ?_
          rotate_left
          · (try dsimp only at hSw); go_simp; try with_reducible rfl
          try simp only [Act.put, List.setIfInBounds_toArray, List.set_cons_zero, List.set_cons_succ]
          refine held_take 13 (oi := _) (v := ?_) rfl (by kernel_rfl) (by kernel_rfl) (by kernel_rfl) (fun _ _ _ h => h) (by rfl) (fun w hSw => ?_) (by assumption) ?_
          rotate_left
          · (try dsimp only at hSw); go_simp; try with_reducible rfl
          try simp only [Act.put, List.setIfInBounds_toArray, List.set_cons_zero, List.set_cons_succ]
          refine held_pass 14 (oi := _) rfl (by kernel_rfl) (by kernel_rfl) (by kernel_rfl) (fun _ _ _ h => h) (by rfl) (by assumption) ?_
          try simp only [Act.put, List.setIfInBounds_toArray, List.set_cons_zero, List.set_cons_succ]
          refine held_pass 15 (oi := _) rfl (by kernel_rfl) (by kernel_rfl) (by kernel_rfl) (fun _ _ _ h => h) (by rfl) (by assumption) ?_
          try simp only [Act.put, List.setIfInBounds_toArray, List.set_cons_zero, List.set_cons_succ]
          refine held_pass 16 (oi := _) rfl (by kernel_rfl) (by kernel_rfl) (by kernel_rfl) (fun _ _ _ h => h) (by rfl) (by assumption) ?_
          try simp only [Act.put, List.setIfInBounds_toArray, List.set_cons_zero, List.set_cons_succ]
          refine held_pass 17 (oi := _) rfl (by kernel_rfl) (by kernel_rfl) (by kernel_rfl) (fun _ _ _ h => h) (by rfl) (by assumption) ?_
          try simp only [Act.put, List.setIfInBounds_toArray, List.set_cons_zero, List.set_cons_succ]
          refine held_pass 18 (oi := _) rfl (by kernel_rfl) (by kernel_rfl) (by kernel_rfl) (fun _ _ _ h => h) (by rfl) (by assumption) ?_
          try simp only [Act.put, List.setIfInBounds_toArray, List.set_cons_zero, List.set_cons_succ]
          refine held_pass 19 (oi := _) rfl (by kernel_rfl) (by kernel_rfl) (by kernel_rfl) (fun _ _ _ h => h) (by rfl) (by assumption) ?_
          try simp only [Act.put, List.setIfInBounds_toArray, List.set_cons_zero, List.set_cons_succ]
          refine held_pass 20 (oi := _) rfl (by kernel_rfl) (by kernel_rfl) (by kernel_rfl) (fun _ _ _ h => h) (by rfl) (by assumption) ?_
          try simp only [Act.put, List.setIfInBounds_toArray, List.set_cons_zero, List.set_cons_succ]
          refine held_pass 21 (oi := _) rfl (by kernel_rfl) (by kernel_rfl) (by kernel_rfl) (fun _ _ _ h => h) (by rfl) (by assumption) ?_
          try simp only [Act.put, List.setIfInBounds_toArray, List.set_cons_zero, List.set_cons_succ]
          refine held_pass 22 (oi := _) rfl (by kernel_rfl) (by kernel_rfl) (by kernel_rfl) (fun _ _ _ h => h) (by rfl) (by assumption) ?_
          try simp only [Act.put, List.setIfInBounds_toArray, List.set_cons_zero, List.set_cons_succ]
          refine held_pass 23 (oi := _) rfl (by kernel_rfl) (by kernel_rfl) (by kernel_rfl) (fun _ _ _ h => h) (by rfl) (by assumption) ?_
          try simp only [Act.put, List.setIfInBounds_toArray, List.set_cons_zero, List.set_cons_succ]
          refine held_pass 24 (oi := _) rfl (by kernel_rfl) (by kernel_rfl) (by kernel_rfl) (fun _ _ _ h => h) (by rfl) (by assumption) ?_
          try simp only [Act.put, List.setIfInBounds_toArray, List.set_cons_zero, List.set_cons_succ]
          refine held_pass 25 (oi := _) rfl (by kernel_rfl) (by kernel_rfl) (by kernel_rfl) (fun _ _ _ h => h) (by rfl) (by assumption) ?_
          try simp only [Act.put, List.setIfInBounds_toArray, List.set_cons_zero, List.set_cons_succ]
          refine held_pass 26 (oi := _) rfl (by kernel_rfl) (by kernel_rfl) (by kernel_rfl) (fun _ _ _ h => h) (by rfl) (by assumption) ?_
          try simp only [Act.put, List.setIfInBounds_toArray, List.set_cons_zero, List.set_cons_succ]
          refine held_take 27 (oi := _) (v := ?_) rfl (by kernel_rfl) (by kernel_rfl) (by kernel_rfl) (fun _ _ _ h => h) (by rfl) (fun w hSw => ?_) (by assumption) ?_
          rotate_left
          · (try dsimp only at hSw); go_simp; try with_reducible rfl
          try simp only [Act.put, List.setIfInBounds_toArray, List.set_cons_zero, List.set_cons_succ]
          refine held_take 28 (oi := _) (v := ?_) rfl (by kernel_rfl) (by kernel_rfl) (by kernel_rfl) (fun _ _ _ h => h) (by rfl) (fun w hSw => ?_) (by assumption) ?_
          rotate_left
          · (try dsimp only at hSw); go_simp; try with_reducible rfl
          try simp only [Act.put, List.setIfInBounds_toArray, List.set_cons_zero, List.set_cons_succ]
          refine held_pass 29 (oi := _) rfl (by kernel_rfl) (by kernel_rfl) (by kernel_rfl) (fun _ _ _ h => h) (by rfl) (by assumption) ?_
          try simp only [Act.put, List.setIfInBounds_toArray, List.set_cons_zero, List.set_cons_succ]
          refine held_pass 30 (oi := _) rfl (by kernel_rfl) (by kernel_rfl) (by kernel_rfl) (fun _ _ _ h => h) (by rfl) (by assumption) ?_
          try simp only [Act.put, List.setIfInBounds_toArray, List.set_cons_zero, List.set_cons_succ]
          refine held_pass 31 (oi := _) rfl (by kernel_rfl) (by kernel_rfl) (by kernel_rfl) (fun _ _ _ h => h) (by rfl) (by assumption) ?_
          try simp only [Act.put, List.setIfInBounds_toArray, List.set_cons_zero, List.set_cons_succ]
          refine held_pass 32 (oi := _) rfl (by kernel_rfl) (by kernel_rfl) (by kernel_rfl) (fun _ _ _ h => h) (by rfl) (by assumption) ?_
          try simp only [Act.put, List.setIfInBounds_toArray, List.set_cons_zero, List.set_cons_succ]
          refine held_pass 33 (oi := _) rfl (by kernel_rfl) (by kernel_rfl) (by kernel_rfl) (fun _ _ _ h => h) (by rfl) (by assumption) ?_
          try simp only [Act.put, List.setIfInBounds_toArray, List.set_cons_zero, List.set_cons_succ]
          refine held_pass 34 (oi := _) rfl (by kernel_rfl) (by kernel_rfl) (by kernel_rfl) (fun _ _ _ h => h) (by rfl) (by assumption) ?_
          try simp only [Act.put, List.setIfInBounds_toArray, List.set_cons_zero, List.set_cons_succ]
          refine held_pass 35 (oi := _) rfl (by kernel_rfl) (by kernel_rfl) (by kernel_rfl) (fun _ _ _ h => h) (by rfl) (by assumption) ?_
          try simp only [Act.put, List.setIfInBounds_toArray, List.set_cons_zero, List.set_cons_succ]
          refine held_pass 36 (oi := _) rfl (by kernel_rfl) (by kernel_rfl) (by kernel_rfl) (fun _ _ _ h => h) (by rfl) (by assumption) ?_
          try simp only [Act.put, List.setIfInBounds_toArray, List.set_cons_zero, List.set_cons_succ]
          refine held_pass 37 (oi := _) rfl (by kernel_rfl) (by kernel_rfl) (by kernel_rfl) (fun _ _ _ h => h) (by rfl) (by assumption) ?_
          try simp only [Act.put, List.setIfInBounds_toArray, List.set_cons_zero, List.set_cons_succ]
          refine held_pass 38 (oi := _) rfl (by kernel_rfl) (by kernel_rfl) (by kernel_rfl) (fun _ _ _ h => h) (by rfl) (by assumption) ?_
          try simp only [Act.put, List.setIfInBounds_toArray, List.set_cons_zero, List.set_cons_succ]
          refine held_pass 39 (oi := _) rfl (by kernel_rfl) (by kernel_rfl) (by kernel_rfl) (fun _ _ _ h => h) (by rfl) (by assumption) ?_
          try simp only [Act.put, List.setIfInBounds_toArray, List.set_cons_zero, List.set_cons_succ]
          refine held_pass 40 (oi := _) rfl (by kernel_rfl) (by kernel_rfl) (by kernel_rfl) (fun _ _ _ h => h) (by rfl) (by assumption) ?_
          try simp only [Act.put, List.setIfInBounds_toArray, List.set_cons_zero, List.set_cons_succ]
          refine held_pass 41 (oi := _) rfl (by kernel_rfl) (by kernel_rfl) (by kernel_rfl) (fun _ _ _ h => h) (by rfl) (by assumption) ?_
          try simp only [Act.put, List.setIfInBounds_toArray, List.set_cons_zero, List.set_cons_succ]
          refine held_take 42 (oi := _) (v := ?_) rfl (by kernel_rfl) (by kernel_rfl) (by kernel_rfl) (fun _ _ _ h => h) (by rfl) (fun w hSw => ?_) (by assumption) ?_
          rotate_left
          · (try dsimp only at hSw); go_simp; try with_reducible rfl
          try simp only [Act.put, List.setIfInBounds_toArray, List.set_cons_zero, List.set_cons_succ]
          refine wpAnyH_done (by kernel_rfl) ?_ _
          go_wp2_with fail
          go_ret
          first | exact SameP.no KW.out HNE.out rfl | exact SameP.no KW.out.drew HNE.out rfl | exact SameP.no (KW.out.drewN _) HNE.out rfl
        subst t1
        have hst1 := bytes_self nm
        by_cases t2 : pg = pg2
        case neg =>
          have HNE := Lib.hid (ne_L HPQ.out.1 HPQ.out.2 (fun e => t2 (by cases e; rfl)))
          have hb6 := bytes_ne t2
          go_upto_region 23 with fail
          have CX := Lib.hid (show ∀ w', Kept (fun _ => False) _ w' → w'.cell? ⟨ib, 2, none⟩ = some (.slice (some ⟨b, o, none⟩) n3 lc) ∧ w'.cell? ⟨ib + 1, 2, none⟩ = some (.slice (some ⟨b', o', none⟩) n3 mc) ∧ w'.cell? ⟨b, o + i * 3, none⟩ = some (.string nm) ∧ w'.cell? ⟨b, o + i * 3 + 1, none⟩ = some (.string pg) ∧ w'.cell? ⟨b, o + i * 3 + 2, none⟩ = some (.int .i64 vr) ∧ w'.cell? ⟨b', o' + i * 3, none⟩ = some (.string nm) ∧ w'.cell? ⟨b', o' + i * 3 + 1, none⟩ = some (.string pg2) ∧ w'.cell? ⟨b', o' + i * 3 + 2, none⟩ = some (.int .i64 vr2) from fun w' k => ⟨(k.cell (p := ⟨ib, 2, none⟩) hil (fun e => e)).trans c2, (k.cell (p := ⟨ib + 1, 2, none⟩) hjl (fun e => e)).trans c2', (k.cell (p := ⟨b, o + i * 3, none⟩) hb (fun e => e)).trans d0, (k.cell (p := ⟨b, o + i * 3 + 1, none⟩) hb (fun e => e)).trans d1, (k.cell (p := ⟨b, o + i * 3 + 2, none⟩) hb (fun e => e)).trans d2, (k.cell (p := ⟨b', o' + i * 3, none⟩) hb' (fun e => e)).trans d0', (k.cell (p := ⟨b', o' + i * 3 + 1, none⟩) hb' (fun e => e)).trans d1', (k.cell (p := ⟨b', o' + i * 3 + 2, none⟩) hb' (fun e => e)).trans d2'⟩)
          clear c2 c2' d0 d1 d2 d0' d1' d2' hb hb' t2
          refine wp_region_heldQ (S := fun w' => w'.cell? ⟨ib, 2, none⟩ = some (.slice (some ⟨b, o, none⟩) n3 lc) ∧ w'.cell? ⟨ib + 1, 2, none⟩ = some (.slice (some ⟨b', o', none⟩) n3 mc) ∧ w'.cell? ⟨b, o + i * 3, none⟩ = some (.string nm) ∧ w'.cell? ⟨b, o + i * 3 + 1, none⟩ = some (.string pg) ∧ w'.cell? ⟨b, o + i * 3 + 2, none⟩ = some (.int .i64 vr) ∧ w'.cell? ⟨b', o' + i * 3, none⟩ = some (.string nm) ∧ w'.cell? ⟨b', o' + i * 3 + 1, none⟩ = some (.string pg2) ∧ w'.cell? ⟨b', o' + i * 3 + 2, none⟩ = some (.int .i64 vr2)) (by kernel_rfl) ?_ (fun hHeld => ?_)
          · exact CX.out _ ((Kept.refl _ _).drew)
          refine held_take 0 (oi := _) (v := ?_) rfl (by kernel_rfl) (by kernel_rfl) (by kernel_rfl) (fun _ _ _ h => h) (by rfl) (fun w hSw => ?_) (by assumption) ?_
          rotate_left
          · (try dsimp only at hSw); go_simp; try with_reducible rfl
          try simp only [Act.put, List.setIfInBounds_toArray, List.set_cons_zero, List.set_cons_succ]
          refine held_take 1 (oi := _) (v := ?_) rfl (by kernel_rfl) (by kernel_rfl) (by kernel_rfl) (fun _ _ _ h => h) (by rfl) (fun w hSw => ?_) (by assumption) ?_
          rotate_left
          · (try dsimp only at hSw); go_simp; try with_reducible rfl
          try simp only [Act.put, List.setIfInBounds_toArray, List.set_cons_zero, List.set_cons_succ]
          refine held_take 2 (oi := _) (v := ?_) rfl (by kernel_rfl) (by kernel_rfl) (by kernel_rfl) (fun _ _ _ h => h) (by rfl) (fun w hSw => ?_) (by assumption) ?_
          rotate_left
          · (try dsimp only at hSw); go_simp; try with_reducible rfl
          try simp only [Act.put, List.setIfInBounds_toArray, List.set_cons_zero, List.set_cons_succ]
          refine held_take 3 (oi := _) (v := ?_) rfl (by kernel_rfl) (by kernel_rfl) (by kernel_rfl) (fun _ _ _ h => h) (by rfl) (fun w hSw => ?_) (by assumption) ?_
          rotate_left
          · (try dsimp only at hSw); go_simp; try with_reducible rfl
          try simp only [Act.put, List.setIfInBounds_toArray, List.set_cons_zero, List.set_cons_succ]
          refine held_take 4 (oi := _) (v := ?_) rfl (by kernel_rfl) (by kernel_rfl) (by kernel_rfl) (fun _ _ _ h => h) (by rfl) (fun w hSw => ?_) (by assumption) ?_
          rotate_left
          · (try dsimp only at hSw); go_simp; try with_reducible rfl
          try simp only [Act.put, List.setIfInBounds_toArray, List.set_cons_zero, List.set_cons_succ]
          refine held_take 5 (oi := _) (v := ?_) rfl (by kernel_rfl) (by kernel_rfl) (by kernel_rfl) (fun _ _ _ h => h) (by rfl) (fun w hSw => ?_) (by assumption) ?_
          rotate_left
          · (try dsimp only at hSw); go_simp; try with_reducible rfl
          try simp only [Act.put, List.setIfInBounds_toArray, List.set_cons_zero, List.set_cons_succ]
          refine held_take 6 (oi := _) (v := ?_) rfl (by kernel_rfl) (by kernel_rfl) (by kernel_rfl) (fun _ _ _ h => h) (by rfl) (fun w hSw => ?_) (by assumption) ?_
          rotate_left
          · (try dsimp only at hSw); go_simp; try with_reducible rfl
          try simp only [Act.put, List.setIfInBounds_toArray, List.set_cons_zero, List.set_cons_succ]
          refine held_take 7 (oi := _) (v := ?_) rfl (by kernel_rfl) (by kernel_rfl) (by kernel_rfl) (fun _ _ _ h => h) (by rfl) (fun w hSw => ?_) (by assumption) ?_
          rotate_left
          · (try dsimp only at hSw); go_simp; try with_reducible rfl
          try simp only [Act.put, List.setIfInBounds_toArray, List.set_cons_zero, List.set_cons_succ]
          refine held_take 8 (oi := _) (v := ?_) rfl (by kernel_rfl) (by kernel_rfl) (by kernel_rfl) (fun _ _ _ h => h) (by rfl) (fun w hSw => ?_) (by assumption) ?_
          rotate_left
          · (try dsimp only at hSw); go_simp; try with_reducible rfl
          try simp only [Act.put, List.setIfInBounds_toArray, List.set_cons_zero, List.set_cons_succ]
          refine held_take 9 (oi := _) (v := ?_) rfl (by kernel_rfl) (by kernel_rfl) (by kernel_rfl) (fun _ _ _ h => h) (by rfl) (fun w hSw => ?_) (by assumption) ?_
          rotate_left
          · (try dsimp only at hSw); go_simp; try with_reducible rfl
          try simp only [Act.put, List.setIfInBounds_toArray, List.set_cons_zero, List.set_cons_succ]
          refine held_take 10 (oi := _) (v := ?_) rfl (by kernel_rfl) (by kernel_rfl) (by kernel_rfl) (fun _ _ _ h => h) (by rfl) (fun w hSw => ?_) (by assumption) ?_
          rotate_left
          · (try dsimp only at hSw); go_simp; try with_reducible rfl
          try simp only [Act.put, List.setIfInBounds_toArray, List.set_cons_zero, List.set_cons_succ]
          refine held_take 11 (oi := _) (v := ?_) rfl (by kernel_rfl) (by kernel_rfl) (by kernel_rfl) (fun _ _ _ h => h) (by rfl) (fun w hSw => ?_) (by assumption) ?_
          rotate_left
          · (try dsimp only at hSw); go_simp; try with_reducible rfl
          try simp only [Act.put, List.setIfInBounds_toArray, List.set_cons_zero, List.set_cons_succ]
          refine held_take 12 (oi := _) (v := ?_) rfl (by kernel_rfl) (by kernel_rfl) (by kernel_rfl) (fun _ _ _ h => h) (by rfl) (fun w hSw => ?_) (by assumption) ?_
          rotate_left
          · (try dsimp only at hSw); go_simp; try with_reducible rfl
          try simp only [Act.put, List.setIfInBounds_toArray, List.set_cons_zero, List.set_cons_succ]
          refine held_take 13 (oi := _) (v := ?_) rfl (by kernel_rfl) (by kernel_rfl) (by kernel_rfl) (fun _ _ _ h => h) (by rfl) (fun w hSw => ?_) (by assumption) ?_
          rotate_left
          · (try dsimp only at hSw); go_simp; try with_reducible rfl
          try simp only [Act.put, List.setIfInBounds_toArray, List.set_cons_zero, List.set_cons_succ]
          refine held_take 14 (oi := _) (v := ?_) rfl (by kernel_rfl) (by kernel_rfl) (by kernel_rfl) (fun _ _ _ h => h) (by rfl) (fun w hSw => ?_) (by assumption) ?_
          rotate_left
          · (try dsimp only at hSw); go_simp; try with_reducible rfl
          try simp only [Act.put, List.setIfInBounds_toArray, List.set_cons_zero, List.set_cons_succ]
          refine held_take 15 (oi := _) (v := ?_) rfl (by kernel_rfl) (by kernel_rfl) (by kernel_rfl) (fun _ _ _ h => h) (by rfl) (fun w hSw => ?_) (by assumption) ?_
          rotate_left
          · (try dsimp only at hSw); go_simp; try with_reducible rfl
          try simp only [Act.put, List.setIfInBounds_toArray, List.set_cons_zero, List.set_cons_succ]
          refine held_take 16 (oi := _) (v := ?_) rfl (by kernel_rfl) (by kernel_rfl) (by kernel_rfl) (fun _ _ _ h => h) (by rfl) (fun w hSw => ?_) (by assumption) ?_
          rotate_left
          · (try dsimp only at hSw); go_simp; try with_reducible rfl
          try simp only [Act.put, List.setIfInBounds_toArray, List.set_cons_zero, List.set_cons_succ]
          refine held_take 17 (oi := _) (v := ?_) rfl (by kernel_rfl) (by kernel_rfl) (by kernel_rfl) (fun _ _ _ h => h) (by rfl) (fun w hSw => ?_) (by assumption) ?_
          rotate_left
          · (try dsimp only at hSw); go_simp; try with_reducible rfl
          try simp only [Act.put, List.setIfInBounds_toArray, List.set_cons_zero, List.set_cons_succ]
          refine held_take 18 (oi := _) (v := ?_) rfl (by kernel_rfl) (by kernel_rfl) (by kernel_rfl) (fun _ _ _ h => h) (by rfl) (fun w hSw => ?_) (by assumption) ?_
          rotate_left
          · (try dsimp only at hSw); go_simp; try with_reducible rfl
          try simp only [Act.put, List.setIfInBounds_toArray, List.set_cons_zero, List.set_cons_succ]
          refine held_take 19 (oi := _) (v := ?_) rfl (by kernel_rfl) (by kernel_rfl) (by kernel_rfl) (fun _ _ _ h => h) (by rfl) (fun w hSw => ?_) (by assumption) ?_
          rotate_left
          · (try dsimp only at hSw); go_simp; try with_reducible rfl
          try simp only [Act.put, List.setIfInBounds_toArray, List.set_cons_zero, List.set_cons_succ]
          refine held_take 20 (oi := _) (v := ?_) rfl (by kernel_rfl) (by kernel_rfl) (by kernel_rfl) (fun _ _ _ h => h) (by rfl) (fun w hSw => ?_) (by assumption) ?_
          rotate_left
          · (try dsimp only at hSw); go_simp; try with_reducible rfl
          try simp only [Act.put, List.setIfInBounds_toArray, List.set_cons_zero, List.set_cons_succ]
          refine held_take 21 (oi := _) (v := ?_) rfl (by kernel_rfl) (by kernel_rfl) (by kernel_rfl) (fun _ _ _ h => h) (by rfl) (fun w hSw => ?_) (by assumption) ?_
          rotate_left
          · (try dsimp only at hSw); go_simp; try with_reducible rfl
          try simp only [Act.put, List.setIfInBounds_toArray, List.set_cons_zero, List.set_cons_succ]
          refine held_take 22 (oi := _) (v := ?_) rfl (by kernel_rfl) (by kernel_rfl) (by kernel_rfl) (fun _ _ _ h => h) (by rfl) (fun w hSw => ?_) (by assumption) ?_
          rotate_left
          · (try dsimp only at hSw); go_simp; try with_reducible rfl
          try simp only [Act.put, List.setIfInBounds_toArray, List.set_cons_zero, List.set_cons_succ]
          refine held_take 23 (oi := _) (v := ?_) rfl (by kernel_rfl) (by kernel_rfl) (by kernel_rfl) (fun _ _ _ h => h) (by rfl) (fun w hSw => ?_) (by assumption) ?_
          rotate_left
          · (try dsimp only at hSw); go_simp; try with_reducible rfl
          try simp only [Act.put, List.setIfInBounds_toArray, List.set_cons_zero, List.set_cons_succ]
          refine held_take 24 (oi := _) (v := ?_) rfl (by kernel_rfl) (by kernel_rfl) (by kernel_rfl) (fun _ _ _ h => h) (by rfl) (fun w hSw => ?_) (by assumption) ?_
          rotate_left
          · (try dsimp only at hSw); go_simp; try with_reducible rfl
          try simp only [Act.put, List.setIfInBounds_toArray, List.set_cons_zero, List.set_cons_succ]
          refine held_take 25 (oi := _) (v := ?_) rfl (by kernel_rfl) (by kernel_rfl) (by kernel_rfl) (fun _ _ _ h => h) (by rfl) (fun w hSw => ?_) (by assumption) ?_
          rotate_left
          · (try dsimp only at hSw); go_simp; try with_reducible rfl
          try simp only [Act.put, List.setIfInBounds_toArray, List.set_cons_zero, List.set_cons_succ]
          refine held_take 26 (oi := _) (v := ?_) rfl (by kernel_rfl) (by kernel_rfl) (by kernel_rfl) (fun _ _ _ h => h) (by rfl) (fun w hSw => ?_) (by assumption) ?_
          rotate_left
          · (try dsimp only at hSw); go_simp; try with_reducible rfl
          try simp only [Act.put, List.setIfInBounds_toArray, List.set_cons_zero, List.set_cons_succ]
          refine held_take 27 (oi := _) (v := ?_) rfl (by kernel_rfl) (by kernel_rfl) (by kernel_rfl) (fun _ _ _ h => h) (by rfl) (fun w hSw => ?_) (by assumption) ?_
          rotate_left
          · (try dsimp only at hSw); go_simp; try with_reducible rfl
          try simp only [Act.put, List.setIfInBounds_toArray, List.set_cons_zero, List.set_cons_succ]
          refine held_take 28 (oi := _) (v := ?_) rfl (by kernel_rfl) (by kernel_rfl) (by kernel_rfl) (fun _ _ _ h => h) (by rfl) (fun w hSw => ?_) (by assumption) ?_
          rotate_left
          · (try dsimp only at hSw); go_simp; try with_reducible rfl
          try simp only [Act.put, List.setIfInBounds_toArray, List.set_cons_zero, List.set_cons_succ]
          refine held_pass 29 (oi := _) rfl (by kernel_rfl) (by kernel_rfl) (by kernel_rfl) (fun _ _ _ h => h) (by rfl) (by assumption) ?_
          try simp only [Act.put, List.setIfInBounds_toArray, List.set_cons_zero, List.set_cons_succ]
          refine held_pass 30 (oi := _) rfl (by kernel_rfl) (by kernel_rfl) (by kernel_rfl) (fun _ _ _ h => h) (by rfl) (by assumption) ?_
          try simp only [Act.put, List.setIfInBounds_toArray, List.set_cons_zero, List.set_cons_succ]
          refine held_pass 31 (oi := _) rfl (by kernel_rfl) (by kernel_rfl) (by kernel_rfl) (fun _ _ _ h => h) (by rfl) (by assumption) ?_
          try simp only [Act.put, List.setIfInBounds_toArray, List.set_cons_zero, List.set_cons_succ]
          refine held_pass 32 (oi := _) rfl (by kernel_rfl) (by kernel_rfl) (by kernel_rfl) (fun _ _ _ h => h) (by rfl) (by assumption) ?_
          try simp only [Act.put, List.setIfInBounds_toArray, List.set_cons_zero, List.set_cons_succ]
          refine held_pass 33 (oi := _) rfl (by kernel_rfl) (by kernel_rfl) (by kernel_rfl) (fun _ _ _ h => h) (by rfl) (by assumption) ?_
          try simp only [Act.put, List.setIfInBounds_toArray, List.set_cons_zero, List.set_cons_succ]
          refine held_pass 34 (oi := _) rfl (by kernel_rfl) (by kernel_rfl) (by kernel_rfl) (fun _ _ _ h => h) (by rfl) (by assumption) ?_
          try simp only [Act.put, List.setIfInBounds_toArray, List.set_cons_zero, List.set_cons_succ]
          refine held_pass 35 (oi := _) rfl (by kernel_rfl) (by kernel_rfl) (by kernel_rfl) (fun _ _ _ h => h) (by rfl) (by assumption) ?_
          try simp only [Act.put, List.setIfInBounds_toArray, List.set_cons_zero, List.set_cons_succ]
          refine held_pass 36 (oi := _) rfl (by kernel_rfl) (by kernel_rfl) (by kernel_rfl) (fun _ _ _ h => h) (by rfl) (by assumption) ?_
          try simp only [Act.put, List.setIfInBounds_toArray, List.set_cons_zero, List.set_cons_succ]
          refine held_pass 37 (oi := _) rfl (by kernel_rfl) (by kernel_rfl) (by kernel_rfl) (fun _ _ _ h => h) (by rfl) (by assumption) ?_
          try simp only [Act.put, List.setIfInBounds_toArray, List.set_cons_zero, List.set_cons_succ]
          refine held_pass 38 (oi := _) rfl (by kernel_rfl) (by kernel_rfl) (by kernel_rfl) (fun _ _ _ h => h) (by rfl) (by assumption) ?_
          try simp only [Act.put, List.setIfInBounds_toArray, List.set_cons_zero, List.set_cons_succ]
          refine held_pass 39 (oi := _) rfl (by kernel_rfl) (by kernel_rfl) (by kernel_rfl) (fun _ _ _ h => h) (by rfl) (by assumption) ?_
          try simp only [Act.put, List.setIfInBounds_toArray, List.set_cons_zero, List.set_cons_succ]
          refine held_pass 40 (oi := _) rfl (by kernel_rfl) (by kernel_rfl) (by kernel_rfl) (fun _ _ _ h => h) (by rfl) (by assumption) ?_
          try simp only [Act.put, List.setIfInBounds_toArray, List.set_cons_zero, List.set_cons_succ]
          refine held_pass 41 (oi := _) rfl (by kernel_rfl) (by kernel_rfl) (by kernel_rfl) (fun _ _ _ h => h) (by rfl) (by assumption) ?_
          try simp only [Act.put, List.setIfInBounds_toArray, List.set_cons_zero, List.set_cons_succ]
          refine held_take 42 (oi := _) (v := ?_) rfl (by kernel_rfl) (by kernel_rfl) (by kernel_rfl) (fun _ _ _ h => h) (by rfl) (fun w hSw => ?_) (by assumption) ?_
          rotate_left
          · (try dsimp only at hSw); go_simp; try with_reducible rfl
          try simp only [Act.put, List.setIfInBounds_toArray, List.set_cons_zero, List.set_cons_succ]
          refine wpAnyH_done (by kernel_rfl) ?_ _
          go_wp2_with fail
          go_ret
          first | exact SameP.no KW.out HNE.out rfl | exact SameP.no KW.out.drew HNE.out rfl | exact SameP.no (KW.out.drewN _) HNE.out rfl
        subst t2
        have hst2 := bytes_self pg
        by_cases t3 : vr = vr2
        case neg =>
          have HNE := Lib.hid (ne_L HPQ.out.1 HPQ.out.2 (fun e => t3 (by cases e; rfl)))
          have hb6 := t3
          go_upto_region 23 with fail
          have CX := Lib.hid (show ∀ w', Kept (fun _ => False) _ w' → w'.cell? ⟨ib, 2, none⟩ = some (.slice (some ⟨b, o, none⟩) n3 lc) ∧ w'.cell? ⟨ib + 1, 2, none⟩ = some (.slice (some ⟨b', o', none⟩) n3 mc) ∧ w'.cell? ⟨b, o + i * 3, none⟩ = some (.string nm) ∧ w'.cell? ⟨b, o + i * 3 + 1, none⟩ = some (.string pg) ∧ w'.cell? ⟨b, o + i * 3 + 2, none⟩ = some (.int .i64 vr) ∧ w'.cell? ⟨b', o' + i * 3, none⟩ = some (.string nm) ∧ w'.cell? ⟨b', o' + i * 3 + 1, none⟩ = some (.string pg) ∧ w'.cell? ⟨b', o' + i * 3 + 2, none⟩ = some (.int .i64 vr2) from fun w' k => ⟨(k.cell (p := ⟨ib, 2, none⟩) hil (fun e => e)).trans c2, (k.cell (p := ⟨ib + 1, 2, none⟩) hjl (fun e => e)).trans c2', (k.cell (p := ⟨b, o + i * 3, none⟩) hb (fun e => e)).trans d0, (k.cell (p := ⟨b, o + i * 3 + 1, none⟩) hb (fun e => e)).trans d1, (k.cell (p := ⟨b, o + i * 3 + 2, none⟩) hb (fun e => e)).trans d2, (k.cell (p := ⟨b', o' + i * 3, none⟩) hb' (fun e => e)).trans d0', (k.cell (p := ⟨b', o' + i * 3 + 1, none⟩) hb' (fun e => e)).trans d1', (k.cell (p := ⟨b', o' + i * 3 + 2, none⟩) hb' (fun e => e)).trans d2'⟩)
          clear c2 c2' d0 d1 d2 d0' d1' d2' hb hb'
          refine wp_region_heldQ (S := fun w' => w'.cell? ⟨ib, 2, none⟩ = some (.slice (some ⟨b, o, none⟩) n3 lc) ∧ w'.cell? ⟨ib + 1, 2, none⟩ = some (.slice (some ⟨b', o', none⟩) n3 mc) ∧ w'.cell? ⟨b, o + i * 3, none⟩ = some (.string nm) ∧ w'.cell? ⟨b, o + i * 3 + 1, none⟩ = some (.string pg) ∧ w'.cell? ⟨b, o + i * 3 + 2, none⟩ = some (.int .i64 vr) ∧ w'.cell? ⟨b', o' + i * 3, none⟩ = some (.string nm) ∧ w'.cell? ⟨b', o' + i * 3 + 1, none⟩ = some (.string pg) ∧ w'.cell? ⟨b', o' + i * 3 + 2, none⟩ = some (.int .i64 vr2)) (by kernel_rfl) ?_ (fun hHeld => ?_)
          · exact CX.out _ ((Kept.refl _ _).drew)
          refine held_take 0 (oi := _) (v := ?_) rfl (by kernel_rfl) (by kernel_rfl) (by kernel_rfl) (fun _ _ _ h => h) (by rfl) (fun w hSw => ?_) (by assumption) ?_
          rotate_left
          · (try dsimp only at hSw); go_simp; try with_reducible rfl
          try simp only [Act.put, List.setIfInBounds_toArray, List.set_cons_zero, List.set_cons_succ]
          refine held_take 1 (oi := _) (v := ?_) rfl (by kernel_rfl) (by kernel_rfl) (by kernel_rfl) (fun _ _ _ h => h) (by rfl) (fun w hSw => ?_) (by assumption) ?_
          rotate_left
          · (try dsimp only at hSw); go_simp; try with_reducible rfl
          try simp only [Act.put, List.setIfInBounds_toArray, List.set_cons_zero, List.set_cons_succ]
          refine held_take 2 (oi := _) (v := ?_) rfl (by kernel_rfl) (by kernel_rfl) (by kernel_rfl) (fun _ _ _ h => h) (by rfl) (fun w hSw => ?_) (by assumption) ?_
          rotate_left
          · (try dsimp only at hSw); go_simp; try with_reducible rfl
          try simp only [Act.put, List.setIfInBounds_toArray, List.set_cons_zero, List.set_cons_succ]
          refine held_take 3 (oi := _) (v := ?_) rfl (by kernel_rfl) (by kernel_rfl) (by kernel_rfl) (fun _ _ _ h => h) (by rfl) (fun w hSw => ?_) (by assumption) ?_
          rotate_left
          · (try dsimp only at hSw); go_simp; try with_reducible rfl
          try simp only [Act.put, List.setIfInBounds_toArray, List.set_cons_zero, List.set_cons_succ]
          refine held_take 4 (oi := _) (v := ?_) rfl (by kernel_rfl) (by kernel_rfl) (by kernel_rfl) (fun _ _ _ h => h) (by rfl) (fun w hSw => ?_) (by assumption) ?_
          rotate_left
          · (try dsimp only at hSw); go_simp; try with_reducible rfl
          try simp only [Act.put, List.setIfInBounds_toArray, List.set_cons_zero, List.set_cons_succ]
          refine held_take 5 (oi := _) (v := ?_) rfl (by kernel_rfl) (by kernel_rfl) (by kernel_rfl) (fun _ _ _ h => h) (by rfl) (fun w hSw => ?_) (by assumption) ?_
          rotate_left
          · (try dsimp only at hSw); go_simp; try with_reducible rfl
          try simp only [Act.put, List.setIfInBounds_toArray, List.set_cons_zero, List.set_cons_succ]
          refine held_take 6 (oi := _) (v := ?_) rfl (by kernel_rfl) (by kernel_rfl) (by kernel_rfl) (fun _ _ _ h => h) (by rfl) (fun w hSw => ?_) (by assumption) ?_
          rotate_left
          · (try dsimp only at hSw); go_simp; try with_reducible rfl
          try simp only [Act.put, List.setIfInBounds_toArray, List.set_cons_zero, List.set_cons_succ]
          refine held_take 7 (oi := _) (v := ?_) rfl (by kernel_rfl) (by kernel_rfl) (by kernel_rfl) (fun _ _ _ h => h) (by rfl) (fun w hSw => ?_) (by assumption) ?_
          rotate_left
          · (try dsimp only at hSw); go_simp; try with_reducible rfl
          try simp only [Act.put, List.setIfInBounds_toArray, List.set_cons_zero, List.set_cons_succ]
          refine held_take 8 (oi := _) (v := ?_) rfl (by kernel_rfl) (by kernel_rfl) (by kernel_rfl) (fun _ _ _ h => h) (by rfl) (fun w hSw => ?_) (by assumption) ?_
          rotate_left
          · (try dsimp only at hSw); go_simp; try with_reducible rfl
          try simp only [Act.put, List.setIfInBounds_toArray, List.set_cons_zero, List.set_cons_succ]
          refine held_take 9 (oi := _) (v := ?_) rfl (by kernel_rfl) (by kernel_rfl) (by kernel_rfl) (fun _ _ _ h => h) (by rfl) (fun w hSw => ?_) (by assumption) ?_
          rotate_left
          · (try dsimp only at hSw); go_simp; try with_reducible rfl
          try simp only [Act.put, List.setIfInBounds_toArray, List.set_cons_zero, List.set_cons_succ]
          refine held_take 10 (oi := _) (v := ?_) rfl (by kernel_rfl) (by kernel_rfl) (by kernel_rfl) (fun _ _ _ h => h) (by rfl) (fun w hSw => ?_) (by assumption) ?_
          rotate_left
          · (try dsimp only at hSw); go_simp; try with_reducible rfl
          try simp only [Act.put, List.setIfInBounds_toArray, List.set_cons_zero, List.set_cons_succ]
          refine held_take 11 (oi := _) (v := ?_) rfl (by kernel_rfl) (by kernel_rfl) (by kernel_rfl) (fun _ _ _ h => h) (by rfl) (fun w hSw => ?_) (by assumption) ?_
          rotate_left
          · (try dsimp only at hSw); go_simp; try with_reducible rfl
          try simp only [Act.put, List.setIfInBounds_toArray, List.set_cons_zero, List.set_cons_succ]
          refine held_take 12 (oi := _) (v := ?_) rfl (by kernel_rfl) (by kernel_rfl) (by kernel_rfl) (fun _ _ _ h => h) (by rfl) (fun w hSw => ?_) (by assumption) ?_
          rotate_left
          · (try dsimp only at hSw); go_simp; try with_reducible rfl
          try simp only [Act.put, List.setIfInBounds_toArray, List.set_cons_zero, List.set_cons_succ]
          refine held_take 13 (oi := _) (v := ?_) rfl (by kernel_rfl) (by kernel_rfl) (by kernel_rfl) (fun _ _ _ h => h) (by rfl) (fun w hSw => ?_) (by assumption) ?_
          rotate_left
          · (try dsimp only at hSw); go_simp; try with_reducible rfl
          try simp only [Act.put, List.setIfInBounds_toArray, List.set_cons_zero, List.set_cons_succ]
          refine held_take 14 (oi := _) (v := ?_) rfl (by kernel_rfl) (by kernel_rfl) (by kernel_rfl) (fun _ _ _ h => h) (by rfl) (fun w hSw => ?_) (by assumption) ?_
          rotate_left
          · (try dsimp only at hSw); go_simp; try with_reducible rfl
          try simp only [Act.put, List.setIfInBounds_toArray, List.set_cons_zero, List.set_cons_succ]
          refine held_take 15 (oi := _) (v := ?_) rfl (by kernel_rfl) (by kernel_rfl) (by kernel_rfl) (fun _ _ _ h => h) (by rfl) (fun w hSw => ?_) (by assumption) ?_
          rotate_left
          · (try dsimp only at hSw); go_simp; try with_reducible rfl
          try simp only [Act.put, List.setIfInBounds_toArray, List.set_cons_zero, List.set_cons_succ]
          refine held_take 16 (oi := _) (v := ?_) rfl (by kernel_rfl) (by kernel_rfl) (by kernel_rfl) (fun _ _ _ h => h) (by rfl) (fun w hSw => ?_) (by assumption) ?_
          rotate_left
          · (try dsimp only at hSw); go_simp; try with_reducible rfl
          try simp only [Act.put, List.setIfInBounds_toArray, List.set_cons_zero, List.set_cons_succ]
          refine held_take 17 (oi := _) (v := ?_) rfl (by kernel_rfl) (by kernel_rfl) (by kernel_rfl) (fun _ _ _ h => h) (by rfl) (fun w hSw => ?_) (by assumption) ?_
          rotate_left
          · (try dsimp only at hSw); go_simp; try with_reducible rfl
          try simp only [Act.put, List.setIfInBounds_toArray, List.set_cons_zero, List.set_cons_succ]
          refine held_take 18 (oi := _) (v := ?_) rfl (by kernel_rfl) (by kernel_rfl) (by kernel_rfl) (fun _ _ _ h => h) (by rfl) (fun w hSw => ?_) (by assumption) ?_
          rotate_left
          · (try dsimp only at hSw); go_simp; try with_reducible rfl
          try simp only [Act.put, List.setIfInBounds_toArray, List.set_cons_zero, List.set_cons_succ]
          refine held_take 19 (oi := _) (v := ?_) rfl (by kernel_rfl) (by kernel_rfl) (by kernel_rfl) (fun _ _ _ h => h) (by rfl) (fun w hSw => ?_) (by assumption) ?_
          rotate_left
          · (try dsimp only at hSw); go_simp; try with_reducible rfl
          try simp only [Act.put, List.setIfInBounds_toArray, List.set_cons_zero, List.set_cons_succ]
          refine held_take 20 (oi := _) (v := ?_) rfl (by kernel_rfl) (by kernel_rfl) (by kernel_rfl) (fun _ _ _ h => h) (by rfl) (fun w hSw => ?_) (by assumption) ?_
          rotate_left
          · (try dsimp only at hSw); go_simp; try with_reducible rfl
          try simp only [Act.put, List.setIfInBounds_toArray, List.set_cons_zero, List.set_cons_succ]
          refine held_take 21 (oi := _) (v := ?_) rfl (by kernel_rfl) (by kernel_rfl) (by kernel_rfl) (fun _ _ _ h => h) (by rfl) (fun w hSw => ?_) (by assumption) ?_
          rotate_left
          · (try dsimp only at hSw); go_simp; try with_reducible rfl
          try simp only [Act.put, List.setIfInBounds_toArray, List.set_cons_zero, List.set_cons_succ]
          refine held_take 22 (oi := _) (v := ?_) rfl (by kernel_rfl) (by kernel_rfl) (by kernel_rfl) (fun _ _ _ h => h) (by rfl) (fun w hSw => ?_) (by assumption) ?_
          rotate_left
          · (try dsimp only at hSw); go_simp; try with_reducible rfl
          try simp only [Act.put, List.setIfInBounds_toArray, List.set_cons_zero, List.set_cons_succ]
          refine held_take 23 (oi := _) (v := ?_) rfl (by kernel_rfl) (by kernel_rfl) (by kernel_rfl) (fun _ _ _ h => h) (by rfl) (fun w hSw => ?_) (by assumption) ?_
          rotate_left
          · (try dsimp only at hSw); go_simp; try with_reducible rfl
          try simp only [Act.put, List.setIfInBounds_toArray, List.set_cons_zero, List.set_cons_succ]
          refine held_take 24 (oi := _) (v := ?_) rfl (by kernel_rfl) (by kernel_rfl) (by kernel_rfl) (fun _ _ _ h => h) (by rfl) (fun w hSw => ?_) (by assumption) ?_
          rotate_left
          · (try dsimp only at hSw); go_simp; try with_reducible rfl
          try simp only [Act.put, List.setIfInBounds_toArray, List.set_cons_zero, List.set_cons_succ]
          refine held_take 25 (oi := _) (v := ?_) rfl (by kernel_rfl) (by kernel_rfl) (by kernel_rfl) (fun _ _ _ h => h) (by rfl) (fun w hSw => ?_) (by assumption) ?_
          rotate_left
          · (try dsimp only at hSw); go_simp; try with_reducible rfl
          try simp only [Act.put, List.setIfInBounds_toArray, List.set_cons_zero, List.set_cons_succ]
          refine held_take 26 (oi := _) (v := ?_) rfl (by kernel_rfl) (by kernel_rfl) (by kernel_rfl) (fun _ _ _ h => h) (by rfl) (fun w hSw => ?_) (by assumption) ?_
          rotate_left
          · (try dsimp only at hSw); go_simp; try with_reducible rfl
          try simp only [Act.put, List.setIfInBounds_toArray, List.set_cons_zero, List.set_cons_succ]
          refine held_take 27 (oi := _) (v := ?_) rfl (by kernel_rfl) (by kernel_rfl) (by kernel_rfl) (fun _ _ _ h => h) (by rfl) (fun w hSw => ?_) (by assumption) ?_
          rotate_left
          · (try dsimp only at hSw); go_simp; try with_reducible rfl
          try simp only [Act.put, List.setIfInBounds_toArray, List.set_cons_zero, List.set_cons_succ]
          refine held_take 28 (oi := _) (v := ?_) rfl (by kernel_rfl) (by kernel_rfl) (by kernel_rfl) (fun _ _ _ h => h) (by rfl) (fun w hSw => ?_) (by assumption) ?_
          rotate_left
          · (try dsimp only at hSw); go_simp; try with_reducible rfl
          try simp only [Act.put, List.setIfInBounds_toArray, List.set_cons_zero, List.set_cons_succ]
          refine held_take 29 (oi := _) (v := ?_) rfl (by kernel_rfl) (by kernel_rfl) (by kernel_rfl) (fun _ _ _ h => h) (by rfl) (fun w hSw => ?_) (by assumption) ?_
          rotate_left
          · (try dsimp only at hSw); go_simp; try with_reducible rfl
          try simp only [Act.put, List.setIfInBounds_toArray, List.set_cons_zero, List.set_cons_succ]
          refine held_take 30 (oi := _) (v := ?_) rfl (by kernel_rfl) (by kernel_rfl) (by kernel_rfl) (fun _ _ _ h => h) (by rfl) (fun w hSw => ?_) (by assumption) ?_
          rotate_left
          · (try dsimp only at hSw); go_simp; try with_reducible rfl
          try simp only [Act.put, List.setIfInBounds_toArray, List.set_cons_zero, List.set_cons_succ]
          refine held_take 31 (oi := _) (v := ?_) rfl (by kernel_rfl) (by kernel_rfl) (by kernel_rfl) (fun _ _ _ h => h) (by rfl) (fun w hSw => ?_) (by assumption) ?_
          rotate_left
          · (try dsimp only at hSw); go_simp; try with_reducible rfl
          try simp only [Act.put, List.setIfInBounds_toArray, List.set_cons_zero, List.set_cons_succ]
          refine held_take 32 (oi := _) (v := ?_) rfl (by kernel_rfl) (by kernel_rfl) (by kernel_rfl) (fun _ _ _ h => h) (by rfl) (fun w hSw => ?_) (by assumption) ?_
          rotate_left
          · (try dsimp only at hSw); go_simp; try with_reducible rfl
          try simp only [Act.put, List.setIfInBounds_toArray, List.set_cons_zero, List.set_cons_succ]
          refine held_take 33 (oi := _) (v := ?_) rfl (by kernel_rfl) (by kernel_rfl) (by kernel_rfl) (fun _ _ _ h => h) (by rfl) (fun w hSw => ?_) (by assumption) ?_
          rotate_left
          · (try dsimp only at hSw); go_simp; try with_reducible rfl
          try simp only [Act.put, List.setIfInBounds_toArray, List.set_cons_zero, List.set_cons_succ]
          refine held_take 34 (oi := _) (v := ?_) rfl (by kernel_rfl) (by kernel_rfl) (by kernel_rfl) (fun _ _ _ h => h) (by rfl) (fun w hSw => ?_) (by assumption) ?_
          rotate_left
          · (try dsimp only at hSw); go_simp; try with_reducible rfl
          try simp only [Act.put, List.setIfInBounds_toArray, List.set_cons_zero, List.set_cons_succ]
          refine held_take 35 (oi := _) (v := ?_) rfl (by kernel_rfl) (by kernel_rfl) (by kernel_rfl) (fun _ _ _ h => h) (by rfl) (fun w hSw => ?_) (by assumption) ?_
          rotate_left
          · (try dsimp only at hSw); go_simp; try with_reducible rfl
          try simp only [Act.put, List.setIfInBounds_toArray, List.set_cons_zero, List.set_cons_succ]
          refine held_take 36 (oi := _) (v := ?_) rfl (by kernel_rfl) (by kernel_rfl) (by kernel_rfl) (fun _ _ _ h => h) (by rfl) (fun w hSw => ?_) (by assumption) ?_
          rotate_left
          · (try dsimp only at hSw); go_simp; try with_reducible rfl
          try simp only [Act.put, List.setIfInBounds_toArray, List.set_cons_zero, List.set_cons_succ]
          refine held_take 37 (oi := _) (v := ?_) rfl (by kernel_rfl) (by kernel_rfl) (by kernel_rfl) (fun _ _ _ h => h) (by rfl) (fun w hSw => ?_) (by assumption) ?_
          rotate_left
          · (try dsimp only at hSw); go_simp; try with_reducible rfl
          try simp only [Act.put, List.setIfInBounds_toArray, List.set_cons_zero, List.set_cons_succ]
          refine held_take 38 (oi := _) (v := ?_) rfl (by kernel_rfl) (by kernel_rfl) (by kernel_rfl) (fun _ _ _ h => h) (by rfl) (fun w hSw => ?_) (by assumption) ?_
          rotate_left
          · (try dsimp only at hSw); go_simp; try with_reducible rfl
          try simp only [Act.put, List.setIfInBounds_toArray, List.set_cons_zero, List.set_cons_succ]
          refine held_take 39 (oi := _) (v := ?_) rfl (by kernel_rfl) (by kernel_rfl) (by kernel_rfl) (fun _ _ _ h => h) (by rfl) (fun w hSw => ?_) (by assumption) ?_
          rotate_left
          · (try dsimp only at hSw); go_simp; try with_reducible rfl
          try simp only [Act.put, List.setIfInBounds_toArray, List.set_cons_zero, List.set_cons_succ]
          refine held_take 40 (oi := _) (v := ?_) rfl (by kernel_rfl) (by kernel_rfl) (by kernel_rfl) (fun _ _ _ h => h) (by rfl) (fun w hSw => ?_) (by assumption) ?_
          rotate_left
          · (try dsimp only at hSw); go_simp; try with_reducible rfl
          try simp only [Act.put, List.setIfInBounds_toArray, List.set_cons_zero, List.set_cons_succ]
          refine held_take 41 (oi := _) (v := ?_) rfl (by kernel_rfl) (by kernel_rfl) (by kernel_rfl) (fun _ _ _ h => h) (by rfl) (fun w hSw => ?_) (by assumption) ?_
          rotate_left
          · (try dsimp only at hSw); go_simp; try with_reducible rfl
          try simp only [Act.put, List.setIfInBounds_toArray, List.set_cons_zero, List.set_cons_succ]
          refine held_take 42 (oi := _) (v := ?_) rfl (by kernel_rfl) (by kernel_rfl) (by kernel_rfl) (fun _ _ _ h => h) (by rfl) (fun w hSw => ?_) (by assumption) ?_
          rotate_left
          · (try dsimp only at hSw); go_simp; try with_reducible rfl
          try simp only [Act.put, List.setIfInBounds_toArray, List.set_cons_zero, List.set_cons_succ]
          refine wpAnyH_done (by kernel_rfl) ?_ _
          go_wp2_with fail
          go_ret
          first | exact SameP.no KW.out HNE.out rfl | exact SameP.no KW.out.drew HNE.out rfl | exact SameP.no (KW.out.drewN _) HNE.out rfl
        subst t3
        go_upto_region 23 with fail
        have CX := Lib.hid (show ∀ w', Kept (fun _ => False) _ w' → w'.cell? ⟨ib, 2, none⟩ = some (.slice (some ⟨b, o, none⟩) n3 lc) ∧ w'.cell? ⟨ib + 1, 2, none⟩ = some (.slice (some ⟨b', o', none⟩) n3 mc) ∧ w'.cell? ⟨b, o + i * 3, none⟩ = some (.string nm) ∧ w'.cell? ⟨b, o + i * 3 + 1, none⟩ = some (.string pg) ∧ w'.cell? ⟨b, o + i * 3 + 2, none⟩ = some (.int .i64 vr) ∧ w'.cell? ⟨b', o' + i * 3, none⟩ = some (.string nm) ∧ w'.cell? ⟨b', o' + i * 3 + 1, none⟩ = some (.string pg) ∧ w'.cell? ⟨b', o' + i * 3 + 2, none⟩ = some (.int .i64 vr) from fun w' k => ⟨(k.cell (p := ⟨ib, 2, none⟩) hil (fun e => e)).trans c2, (k.cell (p := ⟨ib + 1, 2, none⟩) hjl (fun e => e)).trans c2', (k.cell (p := ⟨b, o + i * 3, none⟩) hb (fun e => e)).trans d0, (k.cell (p := ⟨b, o + i * 3 + 1, none⟩) hb (fun e => e)).trans d1, (k.cell (p := ⟨b, o + i * 3 + 2, none⟩) hb (fun e => e)).trans d2, (k.cell (p := ⟨b', o' + i * 3, none⟩) hb' (fun e => e)).trans d0', (k.cell (p := ⟨b', o' + i * 3 + 1, none⟩) hb' (fun e => e)).trans d1', (k.cell (p := ⟨b', o' + i * 3 + 2, none⟩) hb' (fun e => e)).trans d2'⟩)
        clear c2 c2' d0 d1 d2 d0' d1' d2' hb hb'
        refine wp_region_heldQ (S := fun w' => w'.cell? ⟨ib, 2, none⟩ = some (.slice (some ⟨b, o, none⟩) n3 lc) ∧ w'.cell? ⟨ib + 1, 2, none⟩ = some (.slice (some ⟨b', o', none⟩) n3 mc) ∧ w'.cell? ⟨b, o + i * 3, none⟩ = some (.string nm) ∧ w'.cell? ⟨b, o + i * 3 + 1, none⟩ = some (.string pg) ∧ w'.cell? ⟨b, o + i * 3 + 2, none⟩ = some (.int .i64 vr) ∧ w'.cell? ⟨b', o' + i * 3, none⟩ = some (.string nm) ∧ w'.cell? ⟨b', o' + i * 3 + 1, none⟩ = some (.string pg) ∧ w'.cell? ⟨b', o' + i * 3 + 2, none⟩ = some (.int .i64 vr)) (by kernel_rfl) ?_ (fun hHeld => ?_)
        · exact CX.out _ ((Kept.refl _ _).drew)
        refine held_take 0 (oi := _) (v := ?_) rfl (by kernel_rfl) (by kernel_rfl) (by kernel_rfl) (fun _ _ _ h => h) (by rfl) (fun w hSw => ?_) (by assumption) ?_
        rotate_left
        · (try dsimp only at hSw); go_simp; try with_reducible rfl
        try simp only [Act.put, List.setIfInBounds_toArray, List.set_cons_zero, List.set_cons_succ]
        refine held_take 1 (oi := _) (v := ?_) rfl (by kernel_rfl) (by kernel_rfl) (by kernel_rfl) (fun _ _ _ h => h) (by rfl) (fun w hSw => ?_) (by assumption) ?_
        rotate_left
        · (try dsimp only at hSw); go_simp; try with_reducible rfl
        try simp only [Act.put, List.setIfInBounds_toArray, List.set_cons_zero, List.set_cons_succ]
        refine held_take 2 (oi := _) (v := ?_) rfl (by kernel_rfl) (by kernel_rfl) (by kernel_rfl) (fun _ _ _ h => h) (by rfl) (fun w hSw => ?_) (by assumption) ?_
        rotate_left
        · (try dsimp only at hSw); go_simp; try with_reducible rfl
        try simp only [Act.put, List.setIfInBounds_toArray, List.set_cons_zero, List.set_cons_succ]
        refine held_take 3 (oi := _) (v := ?_) rfl (by kernel_rfl) (by kernel_rfl) (by kernel_rfl) (fun _ _ _ h => h) (by rfl) (fun w hSw => ?_) (by assumption) ?_
        rotate_left
        · (try dsimp only at hSw); go_simp; try with_reducible rfl
        try simp only [Act.put, List.setIfInBounds_toArray, List.set_cons_zero, List.set_cons_succ]
        refine held_take 4 (oi := _) (v := ?_) rfl (by kernel_rfl) (by kernel_rfl) (by kernel_rfl) (fun _ _ _ h => h) (by rfl) (fun w hSw => ?_) (by assumption) ?_
        rotate_left
        · (try dsimp only at hSw); go_simp; try with_reducible rfl
        try simp only [Act.put, List.setIfInBounds_toArray, List.set_cons_zero, List.set_cons_succ]
        refine held_take 5 (oi := _) (v := ?_) rfl (by kernel_rfl) (by kernel_rfl) (by kernel_rfl) (fun _ _ _ h => h) (by rfl) (fun w hSw => ?_) (by assumption) ?_
        rotate_left
        · (try dsimp only at hSw); go_simp; try with_reducible rfl
        try simp only [Act.put, List.setIfInBounds_toArray, List.set_cons_zero, List.set_cons_succ]
        refine held_take 6 (oi := _) (v := ?_) rfl (by kernel_rfl) (by kernel_rfl) (by kernel_rfl) (fun _ _ _ h => h) (by rfl) (fun w hSw => ?_) (by assumption) ?_
        rotate_left
        · (try dsimp only at hSw); go_simp; try with_reducible rfl
        try simp only [Act.put, List.setIfInBounds_toArray, List.set_cons_zero, List.set_cons_succ]
        refine held_take 7 (oi := _) (v := ?_) rfl (by kernel_rfl) (by kernel_rfl) (by kernel_rfl) (fun _ _ _ h => h) (by rfl) (fun w hSw => ?_) (by assumption) ?_
        rotate_left
        · (try dsimp only at hSw); go_simp; try with_reducible rfl
        try simp only [Act.put, List.setIfInBounds_toArray, List.set_cons_zero, List.set_cons_succ]
        refine held_take 8 (oi := _) (v := ?_) rfl (by kernel_rfl) (by kernel_rfl) (by kernel_rfl) (fun _ _ _ h => h) (by rfl) (fun w hSw => ?_) (by assumption) ?_
        rotate_left
        · (try dsimp only at hSw); go_simp; try with_reducible rfl
        try simp only [Act.put, List.setIfInBounds_toArray, List.set_cons_zero, List.set_cons_succ]
        refine held_take 9 (oi := _) (v := ?_) rfl (by kernel_rfl) (by kernel_rfl) (by kernel_rfl) (fun _ _ _ h => h) (by rfl) (fun w hSw => ?_) (by assumption) ?_
        rotate_left
        · (try dsimp only at hSw); go_simp; try with_reducible rfl
        try simp only [Act.put, List.setIfInBounds_toArray, List.set_cons_zero, List.set_cons_succ]
        refine held_take 10 (oi := _) (v := ?_) rfl (by kernel_rfl) (by kernel_rfl) (by kernel_rfl) (fun _ _ _ h => h) (by rfl) (fun w hSw => ?_) (by assumption) ?_
        rotate_left
        · (try dsimp only at hSw); go_simp; try with_reducible rfl
        try simp only [Act.put, List.setIfInBounds_toArray, List.set_cons_zero, List.set_cons_succ]
        refine held_take 11 (oi := _) (v := ?_) rfl (by kernel_rfl) (by kernel_rfl) (by kernel_rfl) (fun _ _ _ h => h) (by rfl) (fun w hSw => ?_) (by assumption) ?_
        rotate_left
        · (try dsimp only at hSw); go_simp; try with_reducible rfl
        try simp only [Act.put, List.setIfInBounds_toArray, List.set_cons_zero, List.set_cons_succ]
        refine held_take 12 (oi := _) (v := ?_) rfl (by kernel_rfl) (by kernel_rfl) (by kernel_rfl) (fun _ _ _ h => h) (by rfl) (fun w hSw => ?_) (by assumption) ?_
        rotate_left
        · (try dsimp only at hSw); go_simp; try with_reducible rfl
        try simp only [Act.put, List.setIfInBounds_toArray, List.set_cons_zero, List.set_cons_succ]
        refine held_take 13 (oi := _) (v := ?_) rfl (by kernel_rfl) (by kernel_rfl) (by kernel_rfl) (fun _ _ _ h => h) (by rfl) (fun w hSw => ?_) (by assumption) ?_
        rotate_left
        · (try dsimp only at hSw); go_simp; try with_reducible rfl
        try simp only [Act.put, List.setIfInBounds_toArray, List.set_cons_zero, List.set_cons_succ]
        refine held_take 14 (oi := _) (v := ?_) rfl (by kernel_rfl) (by kernel_rfl) (by kernel_rfl) (fun _ _ _ h => h) (by rfl) (fun w hSw => ?_) (by assumption) ?_
        rotate_left
        · (try dsimp only at hSw); go_simp; try with_reducible rfl
        try simp only [Act.put, List.setIfInBounds_toArray, List.set_cons_zero, List.set_cons_succ]
        refine held_take 15 (oi := _) (v := ?_) rfl (by kernel_rfl) (by kernel_rfl) (by kernel_rfl) (fun _ _ _ h => h) (by rfl) (fun w hSw => ?_) (by assumption) ?_
        rotate_left
        · (try dsimp only at hSw); go_simp; try with_reducible rfl
        try simp only [Act.put, List.setIfInBounds_toArray, List.set_cons_zero, List.set_cons_succ]
        refine held_take 16 (oi := _) (v := ?_) rfl (by kernel_rfl) (by kernel_rfl) (by kernel_rfl) (fun _ _ _ h => h) (by rfl) (fun w hSw => ?_) (by assumption) ?_
        rotate_left
        · (try dsimp only at hSw); go_simp; try with_reducible rfl
        try simp only [Act.put, List.setIfInBounds_toArray, List.set_cons_zero, List.set_cons_succ]
        refine held_take 17 (oi := _) (v := ?_) rfl (by kernel_rfl) (by kernel_rfl) (by kernel_rfl) (fun _ _ _ h => h) (by rfl) (fun w hSw => ?_) (by assumption) ?_
        rotate_left
        · (try dsimp only at hSw); go_simp; try with_reducible rfl
        try simp only [Act.put, List.setIfInBounds_toArray, List.set_cons_zero, List.set_cons_succ]
        refine held_take 18 (oi := _) (v := ?_) rfl (by kernel_rfl) (by kernel_rfl) (by kernel_rfl) (fun _ _ _ h => h) (by rfl) (fun w hSw => ?_) (by assumption) ?_
        rotate_left
        · (try dsimp only at hSw); go_simp; try with_reducible rfl
        try simp only [Act.put, List.setIfInBounds_toArray, List.set_cons_zero, List.set_cons_succ]
        refine held_take 19 (oi := _) (v := ?_) rfl (by kernel_rfl) (by kernel_rfl) (by kernel_rfl) (fun _ _ _ h => h) (by rfl) (fun w hSw => ?_) (by assumption) ?_
        rotate_left
        · (try dsimp only at hSw); go_simp; try with_reducible rfl
        try simp only [Act.put, List.setIfInBounds_toArray, List.set_cons_zero, List.set_cons_succ]
        refine held_take 20 (oi := _) (v := ?_) rfl (by kernel_rfl) (by kernel_rfl) (by kernel_rfl) (fun _ _ _ h => h) (by rfl) (fun w hSw => ?_) (by assumption) ?_
        rotate_left
        · (try dsimp only at hSw); go_simp; try with_reducible rfl
        try simp only [Act.put, List.setIfInBounds_toArray, List.set_cons_zero, List.set_cons_succ]
        refine held_take 21 (oi := _) (v := ?_) rfl (by kernel_rfl) (by kernel_rfl) (by kernel_rfl) (fun _ _ _ h => h) (by rfl) (fun w hSw => ?_) (by assumption) ?_
        rotate_left
        · (try dsimp only at hSw); go_simp; try with_reducible rfl
        try simp only [Act.put, List.setIfInBounds_toArray, List.set_cons_zero, List.set_cons_succ]
        refine held_take 22 (oi := _) (v := ?_) rfl (by kernel_rfl) (by kernel_rfl) (by kernel_rfl) (fun _ _ _ h => h) (by rfl) (fun w hSw => ?_) (by assumption) ?_
        rotate_left
        · (try dsimp only at hSw); go_simp; try with_reducible rfl
        try simp only [Act.put, List.setIfInBounds_toArray, List.set_cons_zero, List.set_cons_succ]
        refine held_take 23 (oi := _) (v := ?_) rfl (by kernel_rfl) (by kernel_rfl) (by kernel_rfl) (fun _ _ _ h => h) (by rfl) (fun w hSw => ?_) (by assumption) ?_
        rotate_left
        · (try dsimp only at hSw); go_simp; try with_reducible rfl
        try simp only [Act.put, List.setIfInBounds_toArray, List.set_cons_zero, List.set_cons_succ]
        refine held_take 24 (oi := _) (v := ?_) rfl (by kernel_rfl) (by kernel_rfl) (by kernel_rfl) (fun _ _ _ h => h) (by rfl) (fun w hSw => ?_) (by assumption) ?_
        rotate_left
        · (try dsimp only at hSw); go_simp; try with_reducible rfl
        try simp only [Act.put, List.setIfInBounds_toArray, List.set_cons_zero, List.set_cons_succ]
        refine held_take 25 (oi := _) (v := ?_) rfl (by kernel_rfl) (by kernel_rfl) (by kernel_rfl) (fun _ _ _ h => h) (by rfl) (fun w hSw => ?_) (by assumption) ?_
        rotate_left
        · (try dsimp only at hSw); go_simp; try with_reducible rfl
        try simp only [Act.put, List.setIfInBounds_toArray, List.set_cons_zero, List.set_cons_succ]
        refine held_take 26 (oi := _) (v := ?_) rfl (by kernel_rfl) (by kernel_rfl) (by kernel_rfl) (fun _ _ _ h => h) (by rfl) (fun w hSw => ?_) (by assumption) ?_
        rotate_left
        · (try dsimp only at hSw); go_simp; try with_reducible rfl
        try simp only [Act.put, List.setIfInBounds_toArray, List.set_cons_zero, List.set_cons_succ]
        refine held_take 27 (oi := _) (v := ?_) rfl (by kernel_rfl) (by kernel_rfl) (by kernel_rfl) (fun _ _ _ h => h) (by rfl) (fun w hSw => ?_) (by assumption) ?_
        rotate_left
        · (try dsimp only at hSw); go_simp; try with_reducible rfl
        try simp only [Act.put, List.setIfInBounds_toArray, List.set_cons_zero, List.set_cons_succ]
        refine held_take 28 (oi := _) (v := ?_) rfl (by kernel_rfl) (by kernel_rfl) (by kernel_rfl) (fun _ _ _ h => h) (by rfl) (fun w hSw => ?_) (by assumption) ?_
        rotate_left
        · (try dsimp only at hSw); go_simp; try with_reducible rfl
        try simp only [Act.put, List.setIfInBounds_toArray, List.set_cons_zero, List.set_cons_succ]
        refine held_take 29 (oi := _) (v := ?_) rfl (by kernel_rfl) (by kernel_rfl) (by kernel_rfl) (fun _ _ _ h => h) (by rfl) (fun w hSw => ?_) (by assumption) ?_
        rotate_left
        · (try dsimp only at hSw); go_simp; try with_reducible rfl
        try simp only [Act.put, List.setIfInBounds_toArray, List.set_cons_zero, List.set_cons_succ]
        refine held_take 30 (oi := _) (v := ?_) rfl (by kernel_rfl) (by kernel_rfl) (by kernel_rfl) (fun _ _ _ h => h) (by rfl) (fun w hSw => ?_) (by assumption) ?_
        rotate_left
        · (try dsimp only at hSw); go_simp; try with_reducible rfl
        try simp only [Act.put, List.setIfInBounds_toArray, List.set_cons_zero, List.set_cons_succ]
        refine held_take 31 (oi := _) (v := ?_) rfl (by kernel_rfl) (by kernel_rfl) (by kernel_rfl) (fun _ _ _ h => h) (by rfl) (fun w hSw => ?_) (by assumption) ?_
        rotate_left
        · (try dsimp only at hSw); go_simp; try with_reducible rfl
        try simp only [Act.put, List.setIfInBounds_toArray, List.set_cons_zero, List.set_cons_succ]
        refine held_take 32 (oi := _) (v := ?_) rfl (by kernel_rfl) (by kernel_rfl) (by kernel_rfl) (fun _ _ _ h => h) (by rfl) (fun w hSw => ?_) (by assumption) ?_
        rotate_left
        · (try dsimp only at hSw); go_simp; try with_reducible rfl
        try simp only [Act.put, List.setIfInBounds_toArray, List.set_cons_zero, List.set_cons_succ]
        refine held_take 33 (oi := _) (v := ?_) rfl (by kernel_rfl) (by kernel_rfl) (by kernel_rfl) (fun _ _ _ h => h) (by rfl) (fun w hSw => ?_) (by assumption) ?_
        rotate_left
        · (try dsimp only at hSw); go_simp; try with_reducible rfl
        try simp only [Act.put, List.setIfInBounds_toArray, List.set_cons_zero, List.set_cons_succ]
        refine held_take 34 (oi := _) (v := ?_) rfl (by kernel_rfl) (by kernel_rfl) (by kernel_rfl) (fun _ _ _ h => h) (by rfl) (fun w hSw => ?_) (by assumption) ?_
        rotate_left
        · (try dsimp only at hSw); go_simp; try with_reducible rfl
        try simp only [Act.put, List.setIfInBounds_toArray, List.set_cons_zero, List.set_cons_succ]
        refine held_take 35 (oi := _) (v := ?_) rfl (by kernel_rfl) (by kernel_rfl) (by kernel_rfl) (fun _ _ _ h => h) (by rfl) (fun w hSw => ?_) (by assumption) ?_
        rotate_left
        · (try dsimp only at hSw); go_simp; try with_reducible rfl
        try simp only [Act.put, List.setIfInBounds_toArray, List.set_cons_zero, List.set_cons_succ]
        refine held_take 36 (oi := _) (v := ?_) rfl (by kernel_rfl) (by kernel_rfl) (by kernel_rfl) (fun _ _ _ h => h) (by rfl) (fun w hSw => ?_) (by assumption) ?_
        rotate_left
        · (try dsimp only at hSw); go_simp; try with_reducible rfl
        try simp only [Act.put, List.setIfInBounds_toArray, List.set_cons_zero, List.set_cons_succ]
        refine held_take 37 (oi := _) (v := ?_) rfl (by kernel_rfl) (by kernel_rfl) (by kernel_rfl) (fun _ _ _ h => h) (by rfl) (fun w hSw => ?_) (by assumption) ?_
        rotate_left
        · (try dsimp only at hSw); go_simp; try with_reducible rfl
        try simp only [Act.put, List.setIfInBounds_toArray, List.set_cons_zero, List.set_cons_succ]
        refine held_take 38 (oi := _) (v := ?_) rfl (by kernel_rfl) (by kernel_rfl) (by kernel_rfl) (fun _ _ _ h => h) (by rfl) (fun w hSw => ?_) (by assumption) ?_
        rotate_left
        · (try dsimp only at hSw); go_simp; try with_reducible rfl
        try simp only [Act.put, List.setIfInBounds_toArray, List.set_cons_zero, List.set_cons_succ]
        refine held_take 39 (oi := _) (v := ?_) rfl (by kernel_rfl) (by kernel_rfl) (by kernel_rfl) (fun _ _ _ h => h) (by rfl) (fun w hSw => ?_) (by assumption) ?_
        rotate_left
        · (try dsimp only at hSw); go_simp; try with_reducible rfl
        try simp only [Act.put, List.setIfInBounds_toArray, List.set_cons_zero, List.set_cons_succ]
        refine held_take 40 (oi := _) (v := ?_) rfl (by kernel_rfl) (by kernel_rfl) (by kernel_rfl) (fun _ _ _ h => h) (by rfl) (fun w hSw => ?_) (by assumption) ?_
        rotate_left
        · (try dsimp only at hSw); go_simp; try with_reducible rfl
        try simp only [Act.put, List.setIfInBounds_toArray, List.set_cons_zero, List.set_cons_succ]
        refine held_take 41 (oi := _) (v := ?_) rfl (by kernel_rfl) (by kernel_rfl) (by kernel_rfl) (fun _ _ _ h => h) (by rfl) (fun w hSw => ?_) (by assumption) ?_
        rotate_left
        · (try dsimp only at hSw); go_simp; try with_reducible rfl
        try simp only [Act.put, List.setIfInBounds_toArray, List.set_cons_zero, List.set_cons_succ]
        refine held_take 42 (oi := _) (v := ?_) rfl (by kernel_rfl) (by kernel_rfl) (by kernel_rfl) (fun _ _ _ h => h) (by rfl) (fun w hSw => ?_) (by assumption) ?_
        rotate_left
        · (try dsimp only at hSw); go_simp; try with_reducible rfl
        try simp only [Act.put, List.setIfInBounds_toArray, List.set_cons_zero, List.set_cons_succ]
        refine wpAnyH_done (by kernel_rfl) ?_ _
        go_wp2_with fail
        refine ⟨⟨i + 1, hlt, rfl, fun j hj => ?_, ?_⟩, by simp only [intOf]; omega⟩
        · by_cases ej : j = i
          · subst ej
            rw [HPQ.out.1, HPQ.out.2]
          · exact R.out.1 j (by omega)
        · first | exact R.out.2 | exact R.out.2.drew | exact R.out.2.drewN _
      · obtain rfl : n3 = i := by omega
        have HLx := Lib.hid (show x.L = y.L from list_eq (by rw [HN.out.2.2, HM.out.2.2]) (fun j hj => R.out.1 j (by rw [← HN.out.2.2]; exact hj)))
        have KW := Lib.hid (K0.out.trans R.out.2 (fun _ _ e => e))
        clear hlt hi hk c2'
        go_wp2_with fail
        go_ret
        refine SameP.yes KW.out ?_ rfl
        have e1 := HP.out
        have e2 := HD.out
        have e3 := HLx.out
        cases x
        cases y
        simp only at e1 e2 e3
        rw [e1, e2, e3]
end Go.Proofs.YtdkcnigghcbnpaaGreat
