/- 'same' answers true where a list is what the document says. -/
import Derived.Test.YteiilokhkpaoeaaLruAll
import Derived.Test.YteiilokhkpaoeaaRefNine
import Derived.Test.YteiilokhkpaoeaaRound
import Derived.Test.YteiilokhkpaoeaaLeave
import Derived.Test.YteiilokhkpaoeaaPlain
namespace Go.Proofs.Yteiilokhkpaoeaa
set_option linter.unusedVariables false
set_option linter.unusedSimpArgs false
open Go.RowKit Go.MapKept

set_option maxRecDepth 100000 in
set_option maxHeartbeats 2000000 in
theorem same_any {bl bm br : Nat} {most most' : Int} {sv : Value} {xs : List (Ent ByteArray Int)} {w : World} (hL : SI.L w bl bm most xs) (hR : Ref9 w br most' sv (xs.map fun x => (x.k, x.v)))
    (hdis : ∀ b, Rfp br sv b → ¬ Lfp bl bm xs b) (hlen : xs.length ≤ 999) :
    Calls Try.prog 30 #[.pointer (some ⟨bl, 0, none⟩), .pointer (some ⟨br, 0, none⟩)] w fun e w' => e = .returned (.bool true) ∧ Kept (Rfp br sv) w w' ∧ Ref9 w' br most' sv (xs.map fun x => (x.k, x.v)) := by
  obtain ⟨N, hN⟩ : ∃ N, N = xs.length := ⟨_, rfl⟩
  have hNps : (xs.map fun x => (x.k, x.v)).length = N := by simp [hN]
  obtain ⟨a, c, rfl, hg, -⟩ := own_form hR.own
  rw [hNps] at hR hdis ⊢
  clear hNps
  refine callsIn_WR (ro := none) (n := 0).1 (callsIn_of_wp_marks Try.func30 rfl trivial ?_ rfl)
  simp only [Try.ntmps30, List.size_toArray, List.length_cons, List.length_nil, Nat.reduceAdd, Nat.reduceSub, Array.replicate_succ, Array.replicate_zero, List.push_toArray, List.append_toArray, List.nil_append, List.cons_append]
  gi_wp2_with fail
  obtain ⟨W0, hW0⟩ : ∃ W0, W0 = (w.alloc (.cells #[.pointer (some ⟨br, 0, none⟩)] 51)).alloc (.cells #[.bool false] 4) := ⟨_, rfl⟩
  have k0 : Kept (fun _ => False) w W0 := by rw [hW0]; exact ((Kept.refl _ w).alloc _).alloc _
  have bw : Box W0 w.heap.size (.pointer (some ⟨br, 0, none⟩)) := by rw [hW0]; exact (Box.new w _ 51).alloc _
  have brr : Box W0 (w.heap.size + 1) (.bool false) := by rw [hW0]; have := Box.new (w.alloc (.cells #[.pointer (some ⟨br, 0, none⟩)] 51)) (.bool false) 4; rwa [World.size_alloc] at this
  have z0 : W0.heap.size = w.heap.size + 2 := by rw [hW0]; simp
  obtain ⟨wb, hwb⟩ : ∃ wb, w.heap.size = wb := ⟨_, rfl⟩
  rw [hwb] at bw brr z0
  obtain ⟨rb, hrb⟩ : ∃ rb, wb + 1 = rb := ⟨_, rfl⟩
  rw [hrb] at brr
  rw [← hW0, hwb, hrb]
  clear hW0
  have hL0 := hL.kept k0 (fun _ _ e => e)
  have hR0 := hR.kept k0 (fun _ _ e => e)
  have hRlt : ∀ b, Rfp br (.slice a N c) b → b < wb := fun b h => by rw [← hwb]; exact hR.lt b h
  have hLlt : ∀ b, Lfp bl bm xs b → b < wb := fun b h => by rw [← hwb]; exact hL.lt b h
  have HW := Lib.hid (And.intro hwb hrb)
  have HRL := Lib.hid hRlt
  have HLL := Lib.hid hLlt
  have HDI := Lib.hid hdis
  have K0 := Lib.hid k0
  clear hwb hrb hRlt hLlt hdis k0 hL hR
  obtain ⟨ys, hys⟩ : ∃ ys, ys = xs := ⟨_, rfl⟩
  rw [← hys] at HLL HDI hlen hN
  cases xs with
  | nil =>
    obtain rfl : N = 0 := by rw [hN, hys]; rfl
    have HYS := Lib.hid hys
    have HN0 := Lib.hid hN
    clear hys hN
    refine callsIn_WR.2 ((SI.oldest_nil hL0).mono ?_)
    rintro e w1 ⟨rfl, t1⟩
    have hL1 := hL0.twin t1
    have hR1 := hR0.twin t1
    have bw1 := bw.twin t1
    have br1 := brr.twin t1
    gi_wp2_with fail
    obtain ⟨w2, hw2, t2⟩ : ∃ w2, w2 = ({ w1 with drawn := w1.drawn + 1 } : World) ∧ Twin w2 w1 := ⟨_, rfl, rfl, rfl, rfl, rfl⟩
    refine wpW_region_still (by kernel_rfl) (by kernel_rfl) ?_
    rw [← hw2]
    have hs := (hR1.twin t2).sl
    have hcw := (bw1.twin t2).cell
    have LEN : Calls Try.prog 33 #[.pointer (some ⟨bl, 0, none⟩)] w2 fun e w'' => e = .returned (.int .i64 (0 : Nat)) ∧ w'' = w2 := (SI.len_any (hL1.twin t2)).mono fun e w' ⟨h1, h2⟩ => ⟨h1, h2.symm⟩
    have hR2 := hR1.twin t2
    have hL2 := hL1.twin t2
    rw [← HYS.out] at hL2 hR2
    have bw2 := bw1.twin t2
    have br2 := br1.twin t2
    have K2 := Lib.hid ((K0.out.twin t1).twin t2)
    have hW2 : W0.heap.size = w2.heap.size := by rw [t2.heap, t1.heap]
    have HN := HN0
    have HW2 := Lib.hid hW2
    clear hw2 hg hL0 hL1 hR0 hR1 bw bw1 brr br1 t1 t2 hW2
    with_reducible refine wpStill_want (by kernel_rfl) (fun K hK => ?_); go_simp; with_reducible refine hK _ ?_; clear hK K
    with_reducible refine wpStill_want (by kernel_rfl) (fun K hK => ?_); go_simp; refine ⟨_, LEN, ?_⟩; with_reducible refine hK _ ?_; clear hK K
    with_reducible refine wpStill_want (by kernel_rfl) (fun K hK => ?_); go_simp; with_reducible refine hK _ ?_; clear hK K
    with_reducible refine wpStill_want (by kernel_rfl) (fun K hK => ?_); go_simp; with_reducible refine hK _ ?_; clear hK K
    with_reducible refine wpStill_want (by kernel_rfl) (fun K hK => ?_); go_simp; with_reducible refine hK _ ?_; clear hK K
    with_reducible refine wpStill_want (by kernel_rfl) (fun K hK => ?_); go_simp; with_reducible refine hK _ ?_; clear hK K
    with_reducible refine wpStill_want (by kernel_rfl) (fun K hK => ?_); go_simp; with_reducible refine hK _ ?_; clear hK K
    with_reducible refine wpStill_want (by kernel_rfl) (fun K hK => ?_); go_simp; with_reducible refine hK _ ?_; clear hK K
    with_reducible refine wpStill_want (by kernel_rfl) (fun K hK => ?_); go_simp; with_reducible refine hK _ ?_; clear hK K
    with_reducible refine wpStill_want (by kernel_rfl) (fun K hK => ?_); go_simp; with_reducible refine hK _ ?_; clear hK K
    with_reducible refine wpStill_want (by kernel_rfl) (fun K hK => ?_); go_simp; with_reducible refine hK _ ?_; clear hK K
    with_reducible refine wpStill_want (by kernel_rfl) (fun K hK => ?_); go_simp; with_reducible refine hK _ ?_; clear hK K
    with_reducible refine wpStill_want (by kernel_rfl) (fun K hK => ?_); go_simp; with_reducible refine hK _ ?_; clear hK K
    with_reducible refine wpStill_want (by kernel_rfl) (fun K hK => ?_); go_simp; with_reducible refine hK _ ?_; clear hK K
    with_reducible refine wpStill_want (by kernel_rfl) (fun K hK => ?_); go_simp; with_reducible refine hK _ ?_; clear hK K
    with_reducible refine wpStill_want (by kernel_rfl) (fun K hK => ?_); go_simp; with_reducible refine hK _ ?_; clear hK K
    with_reducible refine wpStill_want (by kernel_rfl) (fun K hK => ?_); go_simp; with_reducible refine hK _ ?_; clear hK K
    with_reducible refine wpStill_want (by kernel_rfl) (fun K hK => ?_); go_simp; with_reducible refine hK _ ?_; clear hK K
    with_reducible refine wpStill_want (by kernel_rfl) (fun K hK => ?_); go_simp; with_reducible refine hK _ ?_; clear hK K
    with_reducible refine wpStill_want (by kernel_rfl) (fun K hK => ?_); go_simp; with_reducible refine hK _ ?_; clear hK K
    with_reducible refine wpStill_want (by kernel_rfl) (fun K hK => ?_); go_simp; with_reducible refine hK _ ?_; clear hK K
    with_reducible refine wpStill_pass (by kernel_rfl) (fun K hK => ?_); go_simp; with_reducible refine hK _ ?_; clear hK K
    with_reducible refine wpStill_pass (by kernel_rfl) (fun K hK => ?_); go_simp; with_reducible refine hK _ ?_; clear hK K
    with_reducible refine wpStill_pass (by kernel_rfl) (fun K hK => ?_); go_simp; with_reducible refine hK _ ?_; clear hK K
    with_reducible refine wpStill_pass (by kernel_rfl) (fun K hK => ?_); go_simp; with_reducible refine hK _ ?_; clear hK K
    with_reducible refine wpStill_pass (by kernel_rfl) (fun K hK => ?_); go_simp; with_reducible refine hK _ ?_; clear hK K
    with_reducible refine wpStill_pass (by kernel_rfl) (fun K hK => ?_); go_simp; with_reducible refine hK _ ?_; clear hK K
    with_reducible refine wpStill_pass (by kernel_rfl) (fun K hK => ?_); go_simp; with_reducible refine hK _ ?_; clear hK K
    with_reducible refine wpStill_pass (by kernel_rfl) (fun K hK => ?_); go_simp; with_reducible refine hK _ ?_; clear hK K
    with_reducible refine wpStill_pass (by kernel_rfl) (fun K hK => ?_); go_simp; with_reducible refine hK _ ?_; clear hK K
    with_reducible refine wpStill_want (by kernel_rfl) (fun K hK => ?_); go_simp; with_reducible refine hK _ ?_; clear hK K
    with_reducible refine wpStill_want (by kernel_rfl) (fun K hK => ?_); go_simp; with_reducible refine hK _ ?_; clear hK K
    with_reducible refine wpStill_want (by kernel_rfl) (fun K hK => ?_); go_simp; with_reducible refine hK _ ?_; clear hK K
    with_reducible refine wpStill_want (by kernel_rfl) (fun K hK => ?_); go_simp; with_reducible refine hK _ ?_; clear hK K
    with_reducible refine wpStill_want (by kernel_rfl) (fun K hK => ?_); go_simp; with_reducible refine hK _ ?_; clear hK K
    with_reducible refine wpStill_want (by kernel_rfl) (fun K hK => ?_); go_simp; with_reducible refine hK _ ?_; clear hK K
    with_reducible refine wpStill_want (by kernel_rfl) (fun K hK => ?_); go_simp; with_reducible refine hK _ ?_; clear hK K
    with_reducible refine wpStill_want (by kernel_rfl) (fun K hK => ?_); go_simp; with_reducible refine hK _ ?_; clear hK K
    with_reducible refine wpStill_want (by kernel_rfl) (fun K hK => ?_); go_simp; with_reducible refine hK _ ?_; clear hK K
    with_reducible refine wpStill_want (by kernel_rfl) (fun K hK => ?_); go_simp; with_reducible refine hK _ ?_; clear hK K
    refine wpStill_nil ?_
    gi_wp2_with fail

    clear LEN hs hcw
    obtain ⟨ib, hib⟩ : ∃ ib, w2.heap.size = ib := ⟨_, rfl⟩
    obtain ⟨w3, hw3⟩ : ∃ w3, w3 = w2.alloc (.cells #[.int .i64 0] 3) := ⟨_, rfl⟩
    have k3 : Kept (fun _ => False) w2 w3 := by rw [hw3]; exact Kept.one_alloc w2 _
    have bi3 : Box w3 ib (.int .i64 0) := by rw [hw3, ← hib]; exact Box.new w2 _ 3
    have z3 : w3.heap.size = ib + 1 := by rw [hw3, ← hib]; simp
    rw [← hw3, hib]
    clear hw3
    refine callsIn_WR.2 ((SI.all_own bl w3).mono ?_)
    rintro e w4 ⟨bx, rfl, hbx, k4, gx⟩
    gi_wp2_with fail
    have hL4 := (hL2.kept k3 (fun _ _ e => e)).kept k4 (fun _ _ e => e)
    have hR4 := (hR2.kept k3 (fun _ _ e => e)).kept k4 (fun _ _ e => e)
    have bw4 := (bw2.kept k3 (fun e => e)).kept k4 (fun e => e)
    have br4 := (br2.kept k3 (fun e => e)).kept k4 (fun e => e)
    have bi4 := bi3.kept k4 (fun e => e)
    have hRd : SI.Rd bx bl bm most ys w4 := ⟨hbx.cell, hbx.lt, hL4⟩
    have hord : wb + 1 = rb ∧ rb + 1 = ib ∧ ib < bx ∧ bx < w4.heap.size := ⟨HW.out.2, by have := HW2.out; have := HW.out.2; omega, by omega, hbx.lt⟩
    have K4 := Lib.hid ((K2.out.trans k3 (fun _ _ e => e)).trans k4 (fun _ _ e => e))
    clear bw2 br2 bi3 hL2 hR2 k3 k4
    refine wpW_range (SI.all1 bx bl bm most ys) rfl SI.enters (fun _ => rfl) (fun (pre : List (Ent ByteArray Int)) U W => Box W ib (.int .i64 pre.length) ∧ Box W wb (.pointer (some ⟨br, 0, none⟩)) ∧ Box W rb (.bool false) ∧ Ref9 W br most' (.slice a 0 c) (ys.map fun x => (x.k, x.v)) ∧ U ib ∧ U wb ∧ U rb ∧ ∀ b, Rfp br (.slice a 0 c) b → U b)
      (fun _ _ _ => False) (fun b => b = ib ∨ b = wb ∨ b = rb ∨ Rfp br (.slice a 0 c) b)
      ?_ (fun _ _ _ _ h _ => h)
      ?_ ?_ ?_ hRd ?_ ⟨bi4, bw4, br4, hR4, .inl rfl, .inr (.inl rfl), .inr (.inr (.inl rfl)), fun b hb => .inr (.inr (.inr hb))⟩ ?_ ?_ (fun _ _ _ _ h => h.elim)
    · intro pre U W W' h k
      obtain ⟨h1, h2, h3, h4, h5, h6, h7, h8⟩ := h
      exact ⟨h1.kept k (fun e => e h5), h2.kept k (fun e => e h6), h3.kept k (fun e => e h7), h4.kept k (fun b hb e => e (h8 b hb)), h5, h6, h7, h8⟩
    · rintro b hu (rfl | hd)
      · rcases hu with h | h | h | h
        · omega
        · omega
        · omega
        · have := HRL.out b h; omega
      · have h1 := HLL.out b hd
        rcases hu with h | h | h | h
        · omega
        · omega
        · omega
        · exact HDI.out b h hd
    · rintro b (rfl | hd)
      · exact hbx.lt
      · exact hL4.lt b hd
    · rintro b (h | h | h | h)
      · omega
      · omega
      · omega
      · exact hR4.lt b h
    · exact fun W W' h k => h.kept k (fun e => e (.inl rfl)) (fun b hb e => e (.inr hb))
    · intro l pre y rest U' W hitems hi hlt' hD' hRd' hl hlD hlW hUU
      have HLT := Lib.hid hlt'
      have HIT := Lib.hid hitems
      clear hUU hlt' hD' hRd' hlD hitems hL4 hR4 bw4 br4 bi4 hRd hbx
      simp only [List.zip_toArray, List.zip_cons_cons, List.zip_nil_left, List.foldl_toArray', List.foldl_cons, List.foldl_nil, List.setIfInBounds_toArray, List.set_cons_succ, List.set_cons_zero]
      gi_wp2_with (rw [Oper.semAt_eq _ _ _ (fun c h => by cases h)]; go_simp; try go_bits)
      refine ⟨trivial, ?_⟩
      intro W2 kl zl
      have ZL := Lib.hid zl
      clear zl
      have hkk : Kept (fun b => ¬ U' b) W W2 := kl.mono fun b _ e h => by subst e; exact hl h
      obtain ⟨hi1, hi2, hi3, hi4, hu1, hu2, hu3, hu4⟩ := hi
      have bi5 := hi1.kept hkk (fun e => e hu1)
      have bw5 := hi2.kept hkk (fun e => e hu2)
      have br5 := hi3.kept hkk (fun e => e hu3)
      have hR5 := hi4.kept hkk (fun b hb e => e (hu4 b hb))
      have HU4 := Lib.hid hu4
      clear hi1 hi2 hi3 hi4 hkk hu4
      have hplen : (pre ++ [y]).length = pre.length + 1 := by simp
      have HPL := Lib.hid hplen
      have hpN : pre.length < 0 := by rw [HN.out, HIT.out]; simp
      have hpi : (ys.map fun x => (x.k, x.v))[pre.length]? = some (y.k, y.v) := by rw [HIT.out]; simp
      obtain ⟨g', c', e0, hc1, hc2⟩ := hR5.at hpi
      injection e0 with e1 e2 e3
      exact absurd hpN (by omega)
    · intro dk U3 W3 hi kw hRd' hdk hdkn hdkU hUU hUn hUlt
      obtain ⟨hi1, hi2, hi3, hi4, -, -, -, hi8⟩ := hi
      rw [← HN.out] at hi1
      have hs9 := hi4.sl
      have hcw9 := hi2.cell
      have hci9 := hi1.cell
      have hcr9 := hi3.cell
      have hfr9 := hi3.frozen
      have BR := Lib.hid hi3
      have R9 := Lib.hid hi4
      have KW := Lib.hid kw
      clear hi1 hi2 hi3 hi4 hi8 hL4 hR4 bw4 br4 bi4 hRd hbx hRd' kw
      gi_wp2_with fail
      refine WR_of_wp ?_
      go_region
      all_goals
        gi_wp2_with fail
        have hdlt := (Array.getElem?_eq_some_iff.1 hdk).1
        have hrd : rb < dk := by omega
        refine leaves_marks [dk] _ (by simp) (fun d hd => ?_) (fun W' kd => ?_)
        · rw [List.mem_singleton.1 hd]
          exact (Below.heap_setCell _ _ _ _ (by simp; omega)).trans hdk
        · have hb := ((BR.out.set (.bool true)).twin (W' := (W3.setCell ⟨rb, 0, none⟩ (.bool true)).drew) ⟨rfl, rfl, rfl, rfl⟩).kept kd (by simp; omega)
          refine ⟨_, results_box rfl Try.underlying4 rfl rfl hb, rfl, ?_⟩
          have hG : ∀ b, b < w.heap.size → b < wb := fun b h => by have := HW.out.1; omega
          have kx3 : Kept (Rfp br (.slice a 0 c)) w W3 := (K4.out.mono (fun _ _ e => e.elim)).trans KW.out (fun b hb e => by
            have := hG b hb
            rcases e with e | e | e | e
            · omega
            · omega
            · omega
            · exact e)
          have kx4 : Kept (fun b => b = rb ∨ b = dk) W3 W' := ((Kept.one_set W3 ⟨rb, 0, none⟩ (.bool true)).twin (w' := (W3.setCell ⟨rb, 0, none⟩ (.bool true)).drew) ⟨rfl, rfl, rfl, rfl⟩ |>.mono (S' := fun b => b = rb ∨ b = dk) (fun b _ e => .inl e)).trans kd (fun b _ e => .inr (List.mem_singleton.1 e))
          rw [← HYS.out]
          refine ⟨kx3.trans kx4 (fun b hb e => by have := hG b hb; omega), R9.out.kept kx4 (fun b hb e => by have := HRL.out b hb; omega)⟩
  | cons x xs =>
    refine callsIn_WR.2 ((SI.oldest_cons hL0).mono ?_)
    rintro e w1 ⟨rfl, t1⟩
    have hL1 := hL0.twin t1
    have hR1 := hR0.twin t1
    have bw1 := bw.twin t1
    have br1 := brr.twin t1
    gi_wp2_with fail
    obtain ⟨w2, hw2, t2⟩ : ∃ w2, w2 = ({ w1 with drawn := w1.drawn + 1 } : World) ∧ Twin w2 w1 := ⟨_, rfl, rfl, rfl, rfl, rfl⟩
    refine wpW_region_still (by kernel_rfl) (by kernel_rfl) ?_
    rw [← hw2]
    have hs := (hR1.twin t2).sl
    have hcw := (bw1.twin t2).cell
    have hN0 : 0 < N := by rw [hN, hys]; simp
    have hN1 : (0 : Int) < (N : Int) := by omega
    obtain ⟨g, c', e0, hc1, -⟩ := (hR1.twin t2).at (i := 0) (p := (x.k, x.v)) rfl
    injection e0 with e1 e2 e3
    subst e1
    have hbs := bytes_self x.k
    have LEN : Calls Try.prog 33 #[.pointer (some ⟨bl, 0, none⟩)] w2 fun e w'' => e = .returned (.int .i64 N) ∧ w'' = w2 := (SI.len_any (hL1.twin t2)).mono fun e w' ⟨h1, h2⟩ => ⟨by rw [hN, hys]; exact h1, h2.symm⟩
    have hR2 := hR1.twin t2
    have hL2 := hL1.twin t2
    rw [← hys] at hL2 hR2
    have bw2 := bw1.twin t2
    have br2 := br1.twin t2
    have K2 := Lib.hid ((K0.out.twin t1).twin t2)
    have hW2 : W0.heap.size = w2.heap.size := by rw [t2.heap, t1.heap]
    have HN := Lib.hid hN
    have HYS := Lib.hid hys
    have HW2 := Lib.hid hW2
    clear hw2 e2 e3 hg hN hL0 hL1 hR0 hR1 bw bw1 brr br1 t1 t2 hW2 hys
    with_reducible refine wpStill_want (by kernel_rfl) (fun K hK => ?_); go_simp; with_reducible refine hK _ ?_; clear hK K
    with_reducible refine wpStill_want (by kernel_rfl) (fun K hK => ?_); go_simp; refine ⟨_, LEN, ?_⟩; with_reducible refine hK _ ?_; clear hK K
    with_reducible refine wpStill_want (by kernel_rfl) (fun K hK => ?_); go_simp; with_reducible refine hK _ ?_; clear hK K
    with_reducible refine wpStill_want (by kernel_rfl) (fun K hK => ?_); go_simp; with_reducible refine hK _ ?_; clear hK K
    with_reducible refine wpStill_want (by kernel_rfl) (fun K hK => ?_); go_simp; with_reducible refine hK _ ?_; clear hK K
    with_reducible refine wpStill_want (by kernel_rfl) (fun K hK => ?_); go_simp; with_reducible refine hK _ ?_; clear hK K
    with_reducible refine wpStill_want (by kernel_rfl) (fun K hK => ?_); go_simp; with_reducible refine hK _ ?_; clear hK K
    with_reducible refine wpStill_want (by kernel_rfl) (fun K hK => ?_); go_simp; with_reducible refine hK _ ?_; clear hK K
    with_reducible refine wpStill_want (by kernel_rfl) (fun K hK => ?_); go_simp; with_reducible refine hK _ ?_; clear hK K
    with_reducible refine wpStill_want (by kernel_rfl) (fun K hK => ?_); go_simp; with_reducible refine hK _ ?_; clear hK K
    with_reducible refine wpStill_want (by kernel_rfl) (fun K hK => ?_); go_simp; with_reducible refine hK _ ?_; clear hK K
    with_reducible refine wpStill_want (by kernel_rfl) (fun K hK => ?_); go_simp; with_reducible refine hK _ ?_; clear hK K
    with_reducible refine wpStill_want (by kernel_rfl) (fun K hK => ?_); go_simp; with_reducible refine hK _ ?_; clear hK K
    with_reducible refine wpStill_want (by kernel_rfl) (fun K hK => ?_); go_simp; with_reducible refine hK _ ?_; clear hK K
    with_reducible refine wpStill_want (by kernel_rfl) (fun K hK => ?_); go_simp; with_reducible refine hK _ ?_; clear hK K
    with_reducible refine wpStill_want (by kernel_rfl) (fun K hK => ?_); go_simp; with_reducible refine hK _ ?_; clear hK K
    with_reducible refine wpStill_want (by kernel_rfl) (fun K hK => ?_); go_simp; with_reducible refine hK _ ?_; clear hK K
    with_reducible refine wpStill_want (by kernel_rfl) (fun K hK => ?_); go_simp; with_reducible refine hK _ ?_; clear hK K
    with_reducible refine wpStill_want (by kernel_rfl) (fun K hK => ?_); go_simp; with_reducible refine hK _ ?_; clear hK K
    with_reducible refine wpStill_want (by kernel_rfl) (fun K hK => ?_); go_simp; with_reducible refine hK _ ?_; clear hK K
    with_reducible refine wpStill_want (by kernel_rfl) (fun K hK => ?_); go_simp; with_reducible refine hK _ ?_; clear hK K
    with_reducible refine wpStill_want (by kernel_rfl) (fun K hK => ?_); go_simp; with_reducible refine hK _ ?_; clear hK K
    with_reducible refine wpStill_want (by kernel_rfl) (fun K hK => ?_); go_simp; with_reducible refine hK _ ?_; clear hK K
    with_reducible refine wpStill_want (by kernel_rfl) (fun K hK => ?_); go_simp; with_reducible refine hK _ ?_; clear hK K
    with_reducible refine wpStill_want (by kernel_rfl) (fun K hK => ?_); go_simp; with_reducible refine hK _ ?_; clear hK K
    with_reducible refine wpStill_want (by kernel_rfl) (fun K hK => ?_); go_simp; with_reducible refine hK _ ?_; clear hK K
    with_reducible refine wpStill_want (by kernel_rfl) (fun K hK => ?_); go_simp; with_reducible refine hK _ ?_; clear hK K
    with_reducible refine wpStill_want (by kernel_rfl) (fun K hK => ?_); go_simp; with_reducible refine hK _ ?_; clear hK K
    with_reducible refine wpStill_want (by kernel_rfl) (fun K hK => ?_); go_simp; with_reducible refine hK _ ?_; clear hK K
    with_reducible refine wpStill_want (by kernel_rfl) (fun K hK => ?_); go_simp; with_reducible refine hK _ ?_; clear hK K
    with_reducible refine wpStill_want (by kernel_rfl) (fun K hK => ?_); go_simp; with_reducible refine hK _ ?_; clear hK K
    with_reducible refine wpStill_want (by kernel_rfl) (fun K hK => ?_); go_simp; with_reducible refine hK _ ?_; clear hK K
    with_reducible refine wpStill_want (by kernel_rfl) (fun K hK => ?_); go_simp; with_reducible refine hK _ ?_; clear hK K
    with_reducible refine wpStill_want (by kernel_rfl) (fun K hK => ?_); go_simp; with_reducible refine hK _ ?_; clear hK K
    with_reducible refine wpStill_want (by kernel_rfl) (fun K hK => ?_); go_simp; with_reducible refine hK _ ?_; clear hK K
    with_reducible refine wpStill_want (by kernel_rfl) (fun K hK => ?_); go_simp; with_reducible refine hK _ ?_; clear hK K
    with_reducible refine wpStill_pass (by kernel_rfl) (fun K hK => ?_); go_simp; with_reducible refine hK _ ?_; clear hK K
    with_reducible refine wpStill_pass (by kernel_rfl) (fun K hK => ?_); go_simp; with_reducible refine hK _ ?_; clear hK K
    with_reducible refine wpStill_want (by kernel_rfl) (fun K hK => ?_); go_simp; with_reducible refine hK _ ?_; clear hK K
    with_reducible refine wpStill_want (by kernel_rfl) (fun K hK => ?_); go_simp; with_reducible refine hK _ ?_; clear hK K
    refine wpStill_nil ?_
    gi_wp2_with fail

    clear LEN hs hcw
    obtain ⟨ib, hib⟩ : ∃ ib, w2.heap.size = ib := ⟨_, rfl⟩
    obtain ⟨w3, hw3⟩ : ∃ w3, w3 = w2.alloc (.cells #[.int .i64 0] 3) := ⟨_, rfl⟩
    have k3 : Kept (fun _ => False) w2 w3 := by rw [hw3]; exact Kept.one_alloc w2 _
    have bi3 : Box w3 ib (.int .i64 0) := by rw [hw3, ← hib]; exact Box.new w2 _ 3
    have z3 : w3.heap.size = ib + 1 := by rw [hw3, ← hib]; simp
    rw [← hw3, hib]
    clear hw3
    refine callsIn_WR.2 ((SI.all_own bl w3).mono ?_)
    rintro e w4 ⟨bx, rfl, hbx, k4, gx⟩
    gi_wp2_with fail
    have hL4 := (hL2.kept k3 (fun _ _ e => e)).kept k4 (fun _ _ e => e)
    have hR4 := (hR2.kept k3 (fun _ _ e => e)).kept k4 (fun _ _ e => e)
    have bw4 := (bw2.kept k3 (fun e => e)).kept k4 (fun e => e)
    have br4 := (br2.kept k3 (fun e => e)).kept k4 (fun e => e)
    have bi4 := bi3.kept k4 (fun e => e)
    have hRd : SI.Rd bx bl bm most ys w4 := ⟨hbx.cell, hbx.lt, hL4⟩
    have hord : wb + 1 = rb ∧ rb + 1 = ib ∧ ib < bx ∧ bx < w4.heap.size := ⟨HW.out.2, by have := HW2.out; have := HW.out.2; omega, by omega, hbx.lt⟩
    have K4 := Lib.hid ((K2.out.trans k3 (fun _ _ e => e)).trans k4 (fun _ _ e => e))
    clear bw2 br2 bi3 hL2 hR2 k3 k4
    refine wpW_range (SI.all1 bx bl bm most ys) rfl SI.enters (fun _ => rfl) (fun (pre : List (Ent ByteArray Int)) U W => Box W ib (.int .i64 pre.length) ∧ Box W wb (.pointer (some ⟨br, 0, none⟩)) ∧ Box W rb (.bool false) ∧ Ref9 W br most' (.slice (some ⟨g, 0, none⟩) N c) (ys.map fun x => (x.k, x.v)) ∧ U ib ∧ U wb ∧ U rb ∧ ∀ b, Rfp br (.slice (some ⟨g, 0, none⟩) N c) b → U b)
      (fun _ _ _ => False) (fun b => b = ib ∨ b = wb ∨ b = rb ∨ Rfp br (.slice (some ⟨g, 0, none⟩) N c) b)
      ?_ (fun _ _ _ _ h _ => h)
      ?_ ?_ ?_ hRd ?_ ⟨bi4, bw4, br4, hR4, .inl rfl, .inr (.inl rfl), .inr (.inr (.inl rfl)), fun b hb => .inr (.inr (.inr hb))⟩ ?_ ?_ (fun _ _ _ _ h => h.elim)
    · intro pre U W W' h k
      obtain ⟨h1, h2, h3, h4, h5, h6, h7, h8⟩ := h
      exact ⟨h1.kept k (fun e => e h5), h2.kept k (fun e => e h6), h3.kept k (fun e => e h7), h4.kept k (fun b hb e => e (h8 b hb)), h5, h6, h7, h8⟩
    · rintro b hu (rfl | hd)
      · rcases hu with h | h | h | h
        · omega
        · omega
        · omega
        · have := HRL.out b h; omega
      · have h1 := HLL.out b hd
        rcases hu with h | h | h | h
        · omega
        · omega
        · omega
        · exact HDI.out b h hd
    · rintro b (rfl | hd)
      · exact hbx.lt
      · exact hL4.lt b hd
    · rintro b (h | h | h | h)
      · omega
      · omega
      · omega
      · exact hR4.lt b h
    · exact fun W W' h k => h.kept k (fun e => e (.inl rfl)) (fun b hb e => e (.inr hb))
    · intro l pre y rest U' W hitems hi hlt' hD' hRd' hl hlD hlW hUU
      have HLT := Lib.hid hlt'
      have HIT := Lib.hid hitems
      clear hUU hlt' hD' hRd' hlD hitems hL4 hR4 bw4 br4 bi4 hRd hbx
      simp only [List.zip_toArray, List.zip_cons_cons, List.zip_nil_left, List.foldl_toArray', List.foldl_cons, List.foldl_nil, List.setIfInBounds_toArray, List.set_cons_succ, List.set_cons_zero]
      gi_wp2_with (rw [Oper.semAt_eq _ _ _ (fun c h => by cases h)]; go_simp; try go_bits)
      refine ⟨trivial, ?_⟩
      intro W2 kl zl
      have ZL := Lib.hid zl
      clear zl
      have hkk : Kept (fun b => ¬ U' b) W W2 := kl.mono fun b _ e h => by subst e; exact hl h
      obtain ⟨hi1, hi2, hi3, hi4, hu1, hu2, hu3, hu4⟩ := hi
      have bi5 := hi1.kept hkk (fun e => e hu1)
      have bw5 := hi2.kept hkk (fun e => e hu2)
      have br5 := hi3.kept hkk (fun e => e hu3)
      have hR5 := hi4.kept hkk (fun b hb e => e (hu4 b hb))
      have HU4 := Lib.hid hu4
      clear hi1 hi2 hi3 hi4 hkk hu4
      have hplen : (pre ++ [y]).length = pre.length + 1 := by simp
      have HPL := Lib.hid hplen
      have hpN : pre.length < N := by rw [HN.out, HIT.out]; simp
      have hpi : (ys.map fun x => (x.k, x.v))[pre.length]? = some (y.k, y.v) := by rw [HIT.out]; simp
      obtain ⟨g', c', e0, hc1, hc2⟩ := hR5.at hpi
      injection e0 with e1 e2 e3
      obtain rfl : g = g' := by injection e1 with e1; injection e1
      obtain ⟨p, hp⟩ : ∃ p, p = pre.length := ⟨_, rfl⟩
      rw [← hp] at hc1 hc2 bi5 hpN
      have HP := Lib.hid hp
      have hge : ¬ ((N : Int) ≤ (p : Int)) := by omega
      have hN999 : N ≤ 999 := by rw [HN.out]; exact hlen
      clear hplen hpi e2 e3 hp
      obtain ⟨w5, hw5, t5⟩ : ∃ w5, w5 = ({ W2 with drawn := W2.drawn + 1 } : World) ∧ Twin w5 W2 := ⟨_, rfl, rfl, rfl, rfl, rfl⟩
      simp only [vSI]
      gi_wp2_with fail
      refine wpW_region_still (by kernel_rfl) (by kernel_rfl) ?_
      rw [← hw5]
      have bi6 := bi5.twin t5
      have hs6 := (hR5.twin t5).sl
      have hcw6 := (bw5.twin t5).cell
      have hci6 := bi6.cell
      have hc16 : w5.cell? ⟨g, p * 2, none⟩ = some (.string y.k) := by obtain ⟨_, rfl⟩ := t5.eq; exact hc1
      have hc26 : w5.cell? ⟨g, p * 2 + 1, none⟩ = some (.int .i64 y.v) := by obtain ⟨_, rfl⟩ := t5.eq; exact hc2
      have hby := bytes_self y.k
      have R6 := Lib.hid (hR5.twin t5)
      have B6 := Lib.hid (And.intro (bw5.twin t5) (And.intro (br5.twin t5) bi6))
      have K6 := Lib.hid ((Kept.refl (fun _ => False) W2).twin t5)
      clear hw5 t5 hR5 bw5 br5 bi5 hc1 hc2
      have hge1 : ¬ (N ≤ p) := by omega
      have hge2 : ¬ ((N : Int) ≤ (p : Int)) := by omega
      with_reducible refine wpStill_want (by kernel_rfl) (fun K hK => ?_); go_simp; with_reducible refine hK _ ?_; clear hK K
      with_reducible refine wpStill_want (by kernel_rfl) (fun K hK => ?_); go_simp; with_reducible refine hK _ ?_; clear hK K
      with_reducible refine wpStill_want (by kernel_rfl) (fun K hK => ?_); go_simp; with_reducible refine hK _ ?_; clear hK K
      with_reducible refine wpStill_want (by kernel_rfl) (fun K hK => ?_); go_simp; with_reducible refine hK _ ?_; clear hK K
      with_reducible refine wpStill_want (by kernel_rfl) (fun K hK => ?_); go_simp; with_reducible refine hK _ ?_; clear hK K
      with_reducible refine wpStill_want (by kernel_rfl) (fun K hK => ?_); go_simp; with_reducible refine hK _ ?_; clear hK K
      with_reducible refine wpStill_want (by kernel_rfl) (fun K hK => ?_); go_simp; with_reducible refine hK _ ?_; clear hK K
      with_reducible refine wpStill_want (by kernel_rfl) (fun K hK => ?_); go_simp; with_reducible refine hK _ ?_; clear hK K
      with_reducible refine wpStill_want (by kernel_rfl) (fun K hK => ?_); go_simp; with_reducible refine hK _ ?_; clear hK K
      with_reducible refine wpStill_want (by kernel_rfl) (fun K hK => ?_); go_simp; with_reducible refine hK _ ?_; clear hK K
      with_reducible refine wpStill_want (by kernel_rfl) (fun K hK => ?_); go_simp; with_reducible refine hK _ ?_; clear hK K
      with_reducible refine wpStill_want (by kernel_rfl) (fun K hK => ?_); go_simp; with_reducible refine hK _ ?_; clear hK K
      with_reducible refine wpStill_want (by kernel_rfl) (fun K hK => ?_); go_simp; with_reducible refine hK _ ?_; clear hK K
      with_reducible refine wpStill_want (by kernel_rfl) (fun K hK => ?_); go_simp; with_reducible refine hK _ ?_; clear hK K
      with_reducible refine wpStill_want (by kernel_rfl) (fun K hK => ?_); go_simp; with_reducible refine hK _ ?_; clear hK K
      with_reducible refine wpStill_want (by kernel_rfl) (fun K hK => ?_); go_simp; with_reducible refine hK _ ?_; clear hK K
      with_reducible refine wpStill_want (by kernel_rfl) (fun K hK => ?_); go_simp; with_reducible refine hK _ ?_; clear hK K
      with_reducible refine wpStill_want (by kernel_rfl) (fun K hK => ?_); go_simp; with_reducible refine hK _ ?_; clear hK K
      with_reducible refine wpStill_want (by kernel_rfl) (fun K hK => ?_); go_simp; with_reducible refine hK _ ?_; clear hK K
      with_reducible refine wpStill_want (by kernel_rfl) (fun K hK => ?_); go_simp; with_reducible refine hK _ ?_; clear hK K
      with_reducible refine wpStill_want (by kernel_rfl) (fun K hK => ?_); go_simp; with_reducible refine hK _ ?_; clear hK K
      with_reducible refine wpStill_want (by kernel_rfl) (fun K hK => ?_); go_simp; with_reducible refine hK _ ?_; clear hK K
      with_reducible refine wpStill_want (by kernel_rfl) (fun K hK => ?_); go_simp; with_reducible refine hK _ ?_; clear hK K
      with_reducible refine wpStill_want (by kernel_rfl) (fun K hK => ?_); go_simp; with_reducible refine hK _ ?_; clear hK K
      with_reducible refine wpStill_want (by kernel_rfl) (fun K hK => ?_); go_simp; with_reducible refine hK _ ?_; clear hK K
      with_reducible refine wpStill_want (by kernel_rfl) (fun K hK => ?_); go_simp; with_reducible refine hK _ ?_; clear hK K
      with_reducible refine wpStill_want (by kernel_rfl) (fun K hK => ?_); go_simp; with_reducible refine hK _ ?_; clear hK K
      with_reducible refine wpStill_want (by kernel_rfl) (fun K hK => ?_); go_simp; with_reducible refine hK _ ?_; clear hK K
      with_reducible refine wpStill_want (by kernel_rfl) (fun K hK => ?_); go_simp; with_reducible refine hK _ ?_; clear hK K
      with_reducible refine wpStill_want (by kernel_rfl) (fun K hK => ?_); go_simp; with_reducible refine hK _ ?_; clear hK K
      with_reducible refine wpStill_want (by kernel_rfl) (fun K hK => ?_); go_simp; with_reducible refine hK _ ?_; clear hK K
      refine wpStill_nil ?_
      have hfi6 := bi6.frozen
      clear bi6
      gi_wp2_with (rw [Oper.semAt_eq _ _ _ (fun c h => by cases h)]; go_simp; try go_bits)
      have kall := Kept.one_set w5 ⟨ib, 0, none⟩ (.int .i64 ((p : Int) + 1))
      have hub : ∀ b, Rfp br (.slice (some ⟨g, 0, none⟩) N c) b → b ≠ ib := fun b h => by have := HRL.out b h; omega
      have hend := round_plain kl hl HLT.out hlW ((K6.out.mono (S' := U') (fun _ _ e => e.elim)).trans kall (fun b _ e => by rw [e]; exact hu1))
      refine ⟨hend.1, U', hend.2.1, hl, hend.2.2.2, ?_, B6.out.1.other _ (by omega), B6.out.2.1.other _ (by omega), R6.out.kept kall (fun b hb e => hub b hb e), hu1, hu2, hu3, HU4.out⟩
      have h := B6.out.2.2.set (.int .i64 ((p : Int) + 1))
      rw [show ((((pre ++ [y]).length : Nat)) : Int) = (p : Int) + 1 by rw [HPL.out]; have := HP.out; omega]
      exact h
    · intro dk U3 W3 hi kw hRd' hdk hdkn hdkU hUU hUn hUlt
      obtain ⟨hi1, hi2, hi3, hi4, -, -, -, hi8⟩ := hi
      rw [← HN.out] at hi1
      have hs9 := hi4.sl
      have hcw9 := hi2.cell
      have hci9 := hi1.cell
      have hcr9 := hi3.cell
      have hfr9 := hi3.frozen
      have BR := Lib.hid hi3
      have R9 := Lib.hid hi4
      have KW := Lib.hid kw
      clear hi1 hi2 hi3 hi4 hi8 hL4 hR4 bw4 br4 bi4 hRd hbx hRd' kw
      gi_wp2_with fail
      refine WR_of_wp ?_
      go_region
      all_goals
        gi_wp2_with fail
        have hdlt := (Array.getElem?_eq_some_iff.1 hdk).1
        have hrd : rb < dk := by omega
        refine leaves_marks [dk] _ (by simp) (fun d hd => ?_) (fun W' kd => ?_)
        · rw [List.mem_singleton.1 hd]
          exact (Below.heap_setCell _ _ _ _ (by simp; omega)).trans hdk
        · have hb := ((BR.out.set (.bool true)).twin (W' := (W3.setCell ⟨rb, 0, none⟩ (.bool true)).drew) ⟨rfl, rfl, rfl, rfl⟩).kept kd (by simp; omega)
          refine ⟨_, results_box rfl Try.underlying4 rfl rfl hb, rfl, ?_⟩
          have hG : ∀ b, b < w.heap.size → b < wb := fun b h => by have := HW.out.1; omega
          have kx3 : Kept (Rfp br (.slice (some ⟨g, 0, none⟩) N c)) w W3 := (K4.out.mono (fun _ _ e => e.elim)).trans KW.out (fun b hb e => by
            have := hG b hb
            rcases e with e | e | e | e
            · omega
            · omega
            · omega
            · exact e)
          have kx4 : Kept (fun b => b = rb ∨ b = dk) W3 W' := ((Kept.one_set W3 ⟨rb, 0, none⟩ (.bool true)).twin (w' := (W3.setCell ⟨rb, 0, none⟩ (.bool true)).drew) ⟨rfl, rfl, rfl, rfl⟩ |>.mono (S' := fun b => b = rb ∨ b = dk) (fun b _ e => .inl e)).trans kd (fun b _ e => .inr (List.mem_singleton.1 e))
          rw [← HYS.out]
          refine ⟨kx3.trans kx4 (fun b hb e => by have := hG b hb; omega), R9.out.kept kx4 (fun b hb e => by have := HRL.out b hb; omega)⟩
end Go.Proofs.Yteiilokhkpaoeaa
