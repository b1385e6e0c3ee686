/- TableLengths, walked. -/
import Derived.Test.YtalahbmahpgkeaaSmall
import Derived.Deep.CutBlock
namespace Go.Proofs.Ytalahbmahpgkeaa
set_option linter.unusedVariables false
set_option linter.unusedSimpArgs false
open Go.RowKit Go.MapKept

/-- The first bytes of a slice. -/
def cutB (k : ByteArray) (n : Nat) : ByteArray := ⟨(k.data.toList.take n).toArray⟩
theorem cutB_size (k : ByteArray) {n : Nat} (h : n ≤ k.size) : (cutB k n).size = n := by
  show ((k.data.toList.take n).toArray).size = n
  simp
  exact Nat.min_eq_left h
theorem cutB_nums (k : ByteArray) (n : Nat) : nums (cutB k n) = (nums k).take n := by
  unfold nums cutB
  simp
theorem BytesAt.cut {W : World} {a : Option Addr} {n : Nat} {k : ByteArray} (h : BytesAt W a n k) {m : Nat} (hm : m ≤ n) : BytesAt W a m (cutB k m) := by
  refine ⟨(cutB_size k (by have := h.1; omega)).symm, fun h0 => h.2.1 (by omega), fun i hi => ?_⟩
  obtain ⟨b, o, e, hb, hc⟩ := h.2.2 i (by omega)
  refine ⟨b, o, e, hb, ?_⟩
  rw [hc, cutB_nums]
  simp only [List.getD_eq_getElem?_getD, List.getElem?_take, hi, if_true]

/-- As made_upd; the value's block matters only if it has the right length. -/
theorem made_upd' {W W0 W1 : World} {bt : Nat} {m : TM} {iv : Value} {E : List En} {F : Nat → Prop} {a va : Option Addr} {n c vn vc : Nat} {k v : ByteArray} {fl : Int} (h : Made W m bt iv E F W0) (q : Kept (fun _ => False) W0 W1) (hk : BytesAt W1 a n k) (hv : BytesAt W1 va vn v) (hva : 0 < vn → ∀ b o, va = some ⟨b, o, none⟩ → ¬ F b) :
    Calls Try.prog 20 #[.pointer (some ⟨bt, 0, none⟩), .slice a n c, .slice va vn vc, .int .i64 fl] W1 fun e w' => e = .returned (.int .i64 (updC m k v fl E)) ∧ ∃ E' F', Made W m bt iv E' F' w' := by
  by_cases h0 : 0 < vn
  · refine (made_upd (c := c) (vc := vc) (fl := fl) h q hk hv (hva h0)).mono ?_
    rintro e w' ⟨rfl, ⟨E', F', -, h2, -⟩, -⟩
    exact ⟨rfl, E', F', h2⟩
  · have hr := (rightB_iff _ _ _ _ _).1 h.1.right
    have h1 := h.kept q
    have hvs : (v.size : Int) ≠ m.vs := by have := hv.1; omega
    refine (update_wrong (m := m) h1.1.c2 h1.1.c3 (.inr (.inl (by have := hv.1; omega)))).mono ?_
    rintro e w' ⟨rfl, rfl⟩
    exact ⟨by unfold updC; rw [if_pos (.inr (.inl hvs))], E, F, h1⟩
theorem updC_one {m : TM} {k v : ByteArray} {fl : Int} {E : List En} : (updC m k v fl E == 1) = decide ((k.size : Int) ≠ m.ks ∨ (v.size : Int) ≠ m.vs ∨ fl < 0 ∨ 2 < fl) := by
  unfold updC addC
  by_cases h : (k.size : Int) ≠ m.ks ∨ (v.size : Int) ≠ m.vs ∨ fl < 0 ∨ 2 < fl
  · rw [if_pos h]
    simp [h]
  · rw [if_neg h, decide_eq_false h]
    rw [beq_eq_false_iff_ne]
    repeat' split
    all_goals decide

theorem made_end {W w6 w7 : World} {bt : Nat} {m : TM} {iv : Value} {E : List En} {F : Nat → Prop} (h : Made W m bt iv E F w6) (k7 : Kept F w6 w7) : Kept (fun _ => False) W w7 :=
  Kept.none ((h.2.2.mono (S' := fun b => W.heap.size ≤ b) (fun _ _ e => e.elim)).trans (k7.mono (fun b _ e => h.2.1 b (.inr (.inl e)))) (fun _ _ e => e))

section
variable {W : World} {a va : Option Addr} {n c vn vc : Nat} {k v : ByteArray}
set_option maxRecDepth 100000 in
set_option maxHeartbeats 4000000 in
theorem tableLengths_any (kind key value fl : Int) (hk : BytesAt W a n k) (hnc : n ≤ c) (hv : BytesAt W va vn v) (hvc : vn ≤ vc) (hc : c ≤ 9223372036854775807) (hc' : vc ≤ 9223372036854775807) :
    Calls Try.prog 5 #[.int .i64 kind, .int .i64 key, .int .i64 value, .slice a n c, .slice va vn vc, .int .i64 fl] W fun e w' => e = .returned (.bool true) ∧ Kept (fun _ => False) W w' := by
  obtain ⟨M, hM⟩ : ∃ M, M = smallM kind key value 5 := ⟨_, rfl⟩
  have hsm := small_right kind key value 5
  have hsa := small_any kind key value 5
  rw [← hM] at hsm hsa
  clear hM
  obtain ⟨nm, kd, ks, vs, mx⟩ := M
  simp only [TM.v] at hsa
  have HSA := Lib.hid hsa
  have HSM := Lib.hid hsm
  have HK := Lib.hid hk
  have HV := Lib.hid hv
  obtain ⟨N, hN⟩ : ∃ N : Nat, N = min n 20 := ⟨_, rfl⟩
  obtain ⟨V, hV⟩ : ∃ V : Nat, V = min vn 20 := ⟨_, rfl⟩
  have hm1 : min (n : Int) 20 = (N : Int) := by omega
  have hm2 : min (vn : Int) 20 = (V : Int) := by omega
  have hb1 : N ≤ n ∧ N ≤ c := by omega
  have hb2 : V ≤ vn ∧ V ≤ vc := by omega
  clear hsa hsm hk hv hN hV
  go_enter Try.func5, Try.ntmps5
  go_wp2_with fail
  refine (shown_any W).mono ?_
  rintro e w1 ⟨rfl, k1⟩
  have K1 := Lib.hid k1
  clear k1
  go_wp2_with fail
  refine (HSA.out w1).mono ?_
  rintro e w2 ⟨rfl, k2⟩
  have K2 := Lib.hid (K1.out.trans k2 (fun _ _ e => e))
  clear k2
  go_upto_region 3 with fail
  generalize hw3 : w2.alloc (.cells #[.string nm, .int .i64 kd, .int .i64 ks, .int .i64 vs, .int .i64 mx] 23) = W0
  have hz : W0.heap[w2.heap.size]? = some (.cells #[.string nm, .int .i64 kd, .int .i64 ks, .int .i64 vs, .int .i64 mx] 23 (0, 0)) := by rw [← hw3]; exact heap_alloc_new w2 _
  have hlt : w2.heap.size < W0.heap.size := by rw [← hw3]; simp
  have K3 := Lib.hid (show Kept (fun _ => False) W W0 from K2.out.trans (by rw [← hw3]; exact Kept.one_alloc w2 _) (fun _ _ e => e))
  clear hw3
  generalize hq : w2.heap.size = q at *
  clear hq
  have CELLS : ∀ w1, Kept (fun _ => False) W0 w1 → w1.cell? ⟨q, 0, none⟩ = some (.string nm) ∧ w1.cell? ⟨q, 1, none⟩ = some (.int .i64 kd) ∧ w1.cell? ⟨q, 2, none⟩ = some (.int .i64 ks) ∧ w1.cell? ⟨q, 3, none⟩ = some (.int .i64 vs) ∧ w1.cell? ⟨q, 4, none⟩ = some (.int .i64 mx) := fun w1 k1 =>
    ⟨(k1.cell (p := ⟨q, 0, none⟩) hlt (fun e => e)).trans (by simp [World.cell?, hz]), (k1.cell (p := ⟨q, 1, none⟩) hlt (fun e => e)).trans (by simp [World.cell?, hz]), (k1.cell (p := ⟨q, 2, none⟩) hlt (fun e => e)).trans (by simp [World.cell?, hz]), (k1.cell (p := ⟨q, 3, none⟩) hlt (fun e => e)).trans (by simp [World.cell?, hz]), (k1.cell (p := ⟨q, 4, none⟩) hlt (fun e => e)).trans (by simp [World.cell?, hz])⟩
  have HC := Lib.hid CELLS
  obtain ⟨c0, c1, c2, c3, c4⟩ := CELLS W0 (.refl _ _)
  have HLT := Lib.hid hlt
  clear CELLS hz hlt
  go_wp2_with fail
  refine (new_any ⟨nm, kd, ks, vs, mx⟩).mono ?_
  rintro e w4 (⟨hf, -⟩ | ⟨-, bt, iv, F, E, rfl, hE, hm⟩)
  · rw [HSM.out.1] at hf
    cases hf
  clear c0 c1 c2 c3 c4
  have HM := Lib.hid hm
  clear hm hE
  have hkN : BytesAt w4 a N (cutB k N) := ((HK.out.kept (K3.out.trans HM.out.2.2 (fun _ _ e => e)) (fun _ _ _ e => e))).cut hb1.1
  have hvV : BytesAt w4 va V (cutB v V) := ((HV.out.kept (K3.out.trans HM.out.2.2 (fun _ _ e => e)) (fun _ _ _ e => e))).cut hb2.1
  have hva : 0 < V → ∀ b o, va = some ⟨b, o, none⟩ → ¬ F b := by
    intro h0 b o e hF
    obtain ⟨b', o', e', hb, -⟩ := HV.out.2.2 0 (by omega)
    rw [e'] at e
    injection e with e
    injection e with e1
    have := HM.out.2.1 b (.inr (.inl hF))
    have := K3.out.size
    omega
  have UPD := Lib.hid (made_upd' (c := c) (vc := vc) (fl := fl) HM.out (.refl _ _) hkN hvV hva)
  have HKN := Lib.hid hkN
  clear hkN hvV hva
  go_wp2_with fail
  refine UPD.out.mono ?_
  rintro e w5 ⟨rfl, E5, F5, hm5⟩
  have HM5 := Lib.hid hm5
  clear UPD hm5
  obtain ⟨c0, c1, c2, c3, c4⟩ := HC.out w5 HM5.out.2.2
  have hu := updC_one (m := ⟨nm, kd, ks, vs, mx⟩) (k := cutB k N) (v := cutB v V) (fl := fl) (E := E)
  have hks : ((cutB k N).size : Int) = (N : Int) := by have := HKN.out.1; omega
  have hvs : ((cutB v V).size : Int) = (V : Int) := by rw [cutB_size v (by have := HV.out.1; omega)]
  rw [hks, hvs] at hu
  generalize updC ⟨nm, kd, ks, vs, mx⟩ (cutB k N) (cutB v V) fl E = U at hu ⊢
  have hk5 : BytesAt w5 a N (cutB k N) := ((HK.out.kept (K3.out.trans HM5.out.2.2 (fun _ _ e => e)) (fun _ _ _ e => e))).cut hb1.1
  have LOOK := Lib.hid (made_look (c := c) HM5.out (.refl _ _) hk5)
  have HKS := Lib.hid hks
  clear hks hvs hk5
  by_cases h1 : (N : Int) = ks
  · subst h1
    have d1 : ((N : Int) != (N : Int)) = false := by simp
    have HNE := Lib.hid (show ∀ E', delC ⟨nm, kd, N, vs, mx⟩ (cutB k N) E' ≠ 1 from fun E' => by
      unfold delC
      rw [if_neg (by rw [HKS.out]; simp)]
      split
      · decide
      · split <;> decide)
    have hcase : (((V : Int) != vs) = true ∧ U = 1) ∨ (((V : Int) != vs) = false ∧ decide (fl < 0) = true ∧ U = 1) ∨ (((V : Int) != vs) = false ∧ decide (fl < 0) = false ∧ decide (2 < fl) = true ∧ U = 1) ∨ (((V : Int) != vs) = false ∧ decide (fl < 0) = false ∧ decide (2 < fl) = false ∧ (U == 1) = false) := by
      have hp : ∀ p : Prop, [Decidable p] → p → (U == 1) = decide p → U = 1 := fun p _ h e => by rw [decide_eq_true h] at e; simpa using e
      by_cases a1 : (V : Int) = vs
      · by_cases a2 : fl < 0
        · exact .inr (.inl ⟨by simpa using a1, by simpa using a2, hp _ (.inr (.inr (.inl a2))) hu⟩)
        · by_cases a3 : 2 < fl
          · exact .inr (.inr (.inl ⟨by simpa using a1, by simpa using a2, by simpa using a3, hp _ (.inr (.inr (.inr a3))) hu⟩))
          · exact .inr (.inr (.inr ⟨by simpa using a1, by simpa using a2, by simpa using a3, by rw [hu]; exact decide_eq_false (fun h => h.elim (fun h => h rfl) (fun h => h.elim (fun h => h a1) (fun h => h.elim a2 a3)))⟩))
      · exact .inl ⟨by simpa using a1, hp _ (.inr (.inl a1)) hu⟩
    clear hu
    rcases hcase with ⟨b1, rfl⟩ | ⟨b1, b2, rfl⟩ | ⟨b1, b2, b3, rfl⟩ | ⟨b1, b2, b3, b4⟩
    all_goals
      go_wp2_with fail
      refine LOOK.out.mono ?_
      rintro e w6 ⟨rfl, F6, hm6, -, -⟩
      have hk6 : BytesAt w6 a N (cutB k N) := ((HK.out.kept (K3.out.trans hm6.2.2 (fun _ _ e => e)) (fun _ _ _ e => e))).cut hb1.1
      have DEL := delete_any (c := c) hm6.1 hk6
      have hdd := HNE.out (useT ⟨nm, kd, N, vs, mx⟩ (cutB k N) E5)
      generalize delC ⟨nm, kd, N, vs, mx⟩ (cutB k N) (useT ⟨nm, kd, N, vs, mx⟩ (cutB k N) E5) = D at DEL hdd
      have d5 : (D != 1) = true := by simpa using hdd
      have DELH := Lib.hid DEL
      have HM6 := Lib.hid hm6
      clear c0 c1 c2 c3 c4
      obtain ⟨c0, c1, c2, c3, c4⟩ := HC.out w6 hm6.2.2
      clear DEL hm6 hk6 LOOK hdd
      generalize (lookT (cutB k N) E5).isSome = is
      generalize enV (lookT (cutB k N) E5) = x
      go_wp2_with fail
      refine DELH.out.mono ?_
      rintro e w7 ⟨rfl, -, k7⟩
      have HE := Lib.hid (K3.out.trans (made_end HM6.out k7) (fun _ _ e => e))
      clear k7 DELH
      go_wp2_with fail
      go_ret
      exact ⟨rfl, HE.out⟩
  · have d1 : ((N : Int) != ks) = true := by simpa using h1
    have d2 : ((N : Int) == ks) = false := by rw [beq_eq_false_iff_ne]; exact h1
    obtain rfl : U = 1 := by
      rw [decide_eq_true (.inl h1)] at hu
      simpa using hu
    have H1 := Lib.hid h1
    clear hu h1
    go_wp2_with fail
    refine LOOK.out.mono ?_
    rintro e w6 ⟨rfl, F6, hm6, -, -⟩
    rw [lookT_wrong HM5.out.1 (by rw [HKS.out]; exact H1.out)]
    have hk6 : BytesAt w6 a N (cutB k N) := ((HK.out.kept (K3.out.trans hm6.2.2 (fun _ _ e => e)) (fun _ _ _ e => e))).cut hb1.1
    have hd : delC ⟨nm, kd, ks, vs, mx⟩ (cutB k N) (useT ⟨nm, kd, ks, vs, mx⟩ (cutB k N) E5) = 1 := by
      unfold delC
      rw [if_pos (by rw [HKS.out]; exact H1.out)]
    have DEL := delete_any (c := c) hm6.1 hk6
    rw [hd] at DEL
    have DELH := Lib.hid DEL
    have HM6 := Lib.hid hm6
    clear c0 c1 c2 c3 c4
    obtain ⟨c0, c1, c2, c3, c4⟩ := HC.out w6 hm6.2.2
    clear DEL hm6 hk6 hd LOOK
    simp only [enV, Option.isSome_none]
    go_wp2_with fail
    refine DELH.out.mono ?_
    rintro e w7 ⟨rfl, -, k7⟩
    have hend := made_end HM6.out k7
    clear c0 c1 c2 c3 c4 DELH
    obtain ⟨c0, c1, c2, c3, c4⟩ := HC.out w7 hend
    have HE := Lib.hid (K3.out.trans hend (fun _ _ e => e))
    clear hend k7
    go_wp2_with fail
    go_ret
    exact ⟨rfl, HE.out⟩
end
end Go.Proofs.Ytalahbmahpgkeaa
