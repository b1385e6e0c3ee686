/- law11.shown: one small table, walked whole. -/
import Derived.Test.YtjkgimloafpipaaGreatScanD
import Derived.Deep.CutBlock
namespace Go.Proofs.YtjkgimloafpipaaGreat
set_option linter.unusedVariables false
set_option linter.unusedSimpArgs false
open Go.RowKit Go.MapKept

theorem cw1 (w : World) (C : Array Value) (n c : Nat) : (convert 23 23 (.slice (some ⟨w.heap.size, 0, none⟩) n c)).run Tryz.prog (w.alloc (.cells C 5)) = .ok (.slice (some ⟨w.heap.size, 0, none⟩) n c) (w.alloc (.cells C 5 (C.size, C.size + 1))) :=
  Go.Joins.run_convert_bytes_const_at w 23 5 C n c _ rfl Tryz.underlying23 Tryz.underlying5
theorem cw2 (w : World) (o : Obj) (C : Array Value) (n c : Nat) : (convert 23 23 (.slice (some ⟨w.heap.size + 1, 0, none⟩) n c)).run Tryz.prog ((w.alloc o).alloc (.cells C 5)) = .ok (.slice (some ⟨w.heap.size + 1, 0, none⟩) n c) ((w.alloc o).alloc (.cells C 5 (C.size, C.size + 1))) :=
  Go.Joins.run_convert_bytes_const_at (w.alloc o) 23 5 C n c _ (by simp) Tryz.underlying23 Tryz.underlying5
set_option maxRecDepth 100000 in
set_option maxHeartbeats 4000000 in
theorem shown_any (W : World) : Calls Tryz.prog 12 #[] W fun e w' => e = .returned (.bool true) ∧ Kept (fun _ => False) W w' := by
  have hc1 := cw1
  have hc2 := cw2
  go_enter Tryz.func12, Tryz.ntmps12
  go_wp2_with fail
  have NEW := one_new sh11_right W
  rw [sh11_new] at NEW
  refine (show Calls Tryz.prog 33 #[.agg #[.string ⟨#[109]⟩, .int .i64 2, .int .i64 1, .int .i64 1, .int .i64 5]] W _ from NEW).mono ?_
  rintro e w1 ⟨bt, rfl, h1⟩
  obtain ⟨q, hq⟩ : ∃ q, w1.heap.size = q := ⟨_, rfl⟩
  obtain ⟨w2, hw2⟩ : ∃ w2, w1.alloc (.cells #[.string cC, .string cA, .string cB] 9) = w2 := ⟨_, rfl⟩
  have hS : Ses sh11 bt (shPs 0) (fun b => W.heap.size ≤ b ∧ b ≠ q) w2 := by
    rw [← hw2]
    exact (h1.1.bound.mono (fun b hb => ⟨hb.1, by omega⟩)).keep (Kept.one_alloc _ _)
  have hK : Kept (fun _ => False) W w2 := by rw [← hw2]; exact h1.2.trans (Kept.one_alloc _ _) (fun _ _ e => e)
  have hql : q < w2.heap.size := by rw [← hw2, ← hq]; simp
  have hc : ∀ k, k < 3 → w2.cell? ⟨q, k, none⟩ = some (.string (shK k)) := by
    intro k hk
    have hz := heap_alloc_new w1 (.cells #[.string cC, .string cA, .string cB] 9)
    rw [← hw2, ← hq]
    have : k = 0 ∨ k = 1 ∨ k = 2 := by omega
    rcases this with rfl | rfl | rfl <;> (simp only [World.cell?, hz]; rfl)
  have H0 := Lib.hid (And.intro hS (And.intro hK (And.intro hql hc)))
  have WL := Lib.hid (show W.heap.size ≤ q from by have := h1.2.size; omega)
  have HW2 := Lib.hid (And.intro hw2 hq)
  clear hS hK hql hc h1 NEW hq hw2
  go_wp2_with fail
  rw [HW2.out.2]
  try rw [HW2.out.1]
  go_loopw [4, 25] (fun s4 i wr => ∃ k : Nat, k ≤ 3 ∧ i = .int .i64 (k : Int) ∧ Ses sh11 bt (shPs k) (fun b => W.heap.size ≤ b ∧ b ≠ q) wr ∧ Kept (fun b => W.heap.size ≤ b ∧ b ≠ q) w2 wr) (fun _ i _ => 3 - (intOf i).toNat)
  case atStart => exact ⟨0, by omega, rfl, H0.out.1, Kept.refl _ _⟩
  case round =>
    obtain ⟨k, hk, rfl, hs, hkr⟩ := hrel
    by_cases hlt : k < 3
    · have hcell : wr.cell? ⟨q, k, none⟩ = some (.string (shK k)) := (hkr.cell (p := ⟨q, k, none⟩) H0.out.2.2.1 (fun e => e.2 rfl)).trans (H0.out.2.2.2 k hlt)
      have HSK := Lib.hid (shK_size k)
      have ST := Lib.hid (sh11_step hlt)
      obtain ⟨x1, w7, hcv1, kq1, bq1, z1⟩ := bytes_made wr (shK k)
      rw [HSK.out] at hcv1 bq1
      have KR := Lib.hid (And.intro hs (And.intro hkr (And.intro kq1 (And.intro bq1 z1))))
      generalize shK k = ky at hcell hcv1 bq1 ST KR
      clear HSK hs hkr kq1 bq1 z1
      have hc9 := cw1 w7
      have Z := Lib.hid KR.out.2.2.2.2
      go_wp2_with fail
      have kq2 := Kept.one_alloc w7 (.cells #[.int .u8 49] 5 (1, 2))
      refine (ses_upd (k := ky) (v := c1) (c := x1) (vc := 1) (fl := 0) KR.out.1 (KR.out.2.2.1.trans kq2 (fun _ _ e => e)) (KR.out.2.2.2.1.kept kq2 (fun _ _ _ e => e)) (bytes_new w7 c1 5 rfl rfl rfl) (fun b o e => .inr (by cases e; have := Z.out; omega))).mono ?_
      rintro e w8 ⟨rfl, h8, k8⟩
      rw [ST.out.1]
      rw [ST.out.2] at h8
      have H8 := Lib.hid (And.intro h8 (And.intro k8 kq2))
      clear h8 k8 kq2 hcv1 hc9 hcell
      go_wp2_with fail
      go_roundw
      case rel =>
        have hz := KR.out.2.1.size
        refine ⟨k + 1, by omega, by go_num, H8.out.1.mono (fun b hb => ?_), ?_⟩
        · rcases hb with hb | hb
          · exact hb
          · have := WL.out
            have := H0.out.2.2.1
            exact ⟨by omega, by omega⟩
        · exact ((KR.out.2.1.trans KR.out.2.2.1 (fun _ _ e => e.elim)).trans H8.out.2.2 (fun _ _ e => e.elim)).trans H8.out.2.1 (fun _ _ e => e)
      case measure => simp [intOf]; omega
    · obtain rfl : k = 3 := by omega
      have hkW : Kept (fun _ => False) W wr := H0.out.2.1.trans hkr (fun b hb e => by omega)
      have H3 := Lib.hid (And.intro (show Ses sh11 bt sh11P (fun b => W.heap.size ≤ b ∧ b ≠ q) wr from hs) hkW)
      clear hs hkr hkW H0
      go_wp2_with fail
      refine (ses_batch H3.out.1 ⟨#[]⟩ true 2).mono ?_
      rintro e w9 ⟨sv, rfl, hrow, k9⟩
      rw [sh11_batch] at hrow ⊢
      obtain ⟨ra, rc, rfl, hg, -⟩ := own_form hrow.1
      obtain ⟨g, rfl⟩ := hg (by simp)
      have ROW := Lib.hid (And.intro hrow k9)
      have H9 := Lib.hid (And.intro (H3.out.1.keep k9) (H3.out.2.trans k9 (fun _ _ e => e)))
      clear hrow k9 hg
      go_wp2_with fail
      refine (ses_next H9.out.1 cB false).mono ?_
      rintro e w10 ⟨rfl, k10⟩
      rw [sh11_next]
      have K10 := Lib.hid k10
      clear k10
      go_wp2_with fail
      refine (ses_next (H9.out.1.keep K10.out) cC false).mono ?_
      rintro e w11 ⟨rfl, k11⟩
      rw [sh11_no]
      have K11 := Lib.hid (K10.out.trans k11 (fun _ _ e => e))
      clear k11 K10
      go_wp2_with fail
      refine (ses_snap (H9.out.1.keep K11.out)).mono ?_
      rintro e w12 ⟨sb, rfl, hob, k12⟩
      rw [sh11_snap] at hob
      obtain ⟨ba, bc, rfl, hbc, hbs, hbf⟩ := hob.form
      have K12 := Lib.hid (K11.out.trans k12 (fun _ _ e => e))
      have HBS := Lib.hid (And.intro hbs (And.intro hbc hbf))
      clear k12 K11 hob hbs hbc hbf
      go_wp2_with fail
      refine (ses_map (H9.out.1.keep K12.out)).mono ?_
      rintro e w13 ⟨rfl, k13⟩
      have K13 := Lib.hid (And.intro k13 (K12.out.trans k13 (fun _ _ e => e)))
      clear k13
      go_wp2_with fail
      refine (ses_restore sh11 (HBS.out.1.kept K13.out.1 (fun _ _ _ e => e)) HBS.out.2.1 (by decide)).mono ?_
      rintro e w14 ⟨k14, hp⟩
      rw [sh11_res] at hp
      obtain ⟨bu, rfl, hu⟩ := hp
      have K14 := Lib.hid (And.intro k14 (K13.out.2.trans k14 (fun _ _ e => e)))
      have HU := Lib.hid hu
      clear k14 hu
      go_wp2_with fail
      refine (ses_map (H9.out.1.keep K14.out.2)).mono ?_
      rintro e w15 ⟨rfl, k15⟩
      have K15 := Lib.hid (And.intro k15 (K14.out.2.trans k15 (fun _ _ e => e)))
      clear k15
      have hc9 := cw1 w15
      go_wp2_with fail
      refine (ses_restore sh11 (bytes_new w15 sh11X 5 rfl rfl rfl) (by decide) (by decide)).mono ?_
      rintro e w16 ⟨k16, hp⟩
      rw [sh11_bad] at hp
      have hp := hp
      rw [if_pos sh11_right] at hp
      subst hp
      have kq := Kept.one_alloc w15 (.cells #[.int .u8 98, .int .u8 49, .int .u8 97, .int .u8 49] 5 (4, 5))
      have K16 := Lib.hid (show Kept (fun _ => False) w14 w16 from (K15.out.1.trans kq (fun _ _ e => e)).trans k16 (fun _ _ e => e))
      clear k16 hc9 kq
      have k9' : Kept (fun _ => False) w9 w16 := K14.out.2.trans K16.out (fun _ _ e => e)
      have hcel : w16.cell? ⟨g, 2, none⟩ = some (.string cB) := by
        have hr := ownsRow_kept ROW.out.1.1 k9' (fun _ _ e => e)
        exact own_cell hr (j := 2) rfl
      have hconv : (convert 23 9 (.slice ba sh11S.size bc)).run Tryz.prog w16 = .ok (.string ⟨#[97, 49, 98, 49, 99, 49]⟩) w16 := (HBS.out.1.kept ((K13.out.1.trans K14.out.1 (fun _ _ e => e)).trans K16.out (fun _ _ e => e)) (fun _ _ _ e => e)).conv
      have FIN := Lib.hid (H9.out.2.trans k9' (fun _ _ e => e))
      have LEN := Lib.hid (ses_len (HU.out.keep K16.out))
      clear k9'
      go_wp2_with fail
      refine LEN.out.mono ?_
      rintro e w17 ⟨rfl, k17⟩
      rw [show (([(cA, c1), (cB, c1), (cC, c1)] : List Pr).length : Int) = 3 from rfl]
      have K17 := Lib.hid (FIN.out.trans k17 (fun _ _ e => e))
      clear k17
      go_wp2_with fail
      go_ret
      exact ⟨rfl, K17.out⟩
end Go.Proofs.YtjkgimloafpipaaGreat
