/- TableOrder, walked. -/
import Derived.Test.YtalahbmahpgkeaaOrdO4
import Derived.Test.YtalahbmahpgkeaaTexts
import Derived.Test.YtalahbmahpgkeaaTblE
import Derived.Test.YtalahbmahpgkeaaGenD
import Derived.Test.YtalahbmahpgkeaaHeld
import Derived.Test.YtalahbmahpgkeaaGenC
import Derived.Deep.CutBlock
import Derived.Deep.RegionHeld3
namespace Go.Proofs.Ytalahbmahpgkeaa
set_option linter.unusedVariables false
set_option linter.unusedSimpArgs false
open Go.RowKit Go.MapKept

theorem order_map (most : Int) : ∃ N : Nat, 1 ≤ N ∧ N ≤ 12 ∧ smallM 2 0 0 most = ordM N := by
  obtain ⟨K, Y, V, X, h1, h2, h3, h4, e1, e2, e3, e4⟩ := small_nums 2 0 0 most
  refine ⟨1 + X, by omega, by omega, ?_⟩
  have e1 : (bits .and .i64 2 255).tmod 3 = 2 := by decide
  have e2 : bits .and .i64 0 3 = 0 := by decide
  have e3 : bits .and .i64 0 7 = 0 := by decide
  unfold smallM ordM
  rw [e1, e2, e3, e4]
  rw [if_neg (by decide)]
  simp only [TM.mk.injEq, true_and]
  refine ⟨rfl, by decide, by decide, by omega⟩
theorem order_right (N : Nat) (h3 : 1 ≤ N) (h4 : N ≤ 12) : (ordM N).right = true := by
  show rightB ⟨#[109]⟩ 3 1 1 (N : Int) = true
  exact (rightB_iff _ _ _ _ _).2 ⟨by decide, by omega, by omega, by omega, by omega, fun e => by omega, by omega, by omega, by omega, by omega⟩

set_option maxRecDepth 100000 in
set_option maxHeartbeats 4000000 in
theorem tableOrder_any (most : Int) (a : Option Addr) (n c : Nat) (z : Nat → Int) (W : World) (hz : Octets W a n z) (hnc : n ≤ c) (hc : c ≤ 9223372036854775807) :
    Calls Try.prog 7 #[.int .i64 most, .slice a n c] W fun e w' => e = .returned (.bool true) ∧ Kept (fun _ => False) W w' := by
  obtain ⟨N, hN1, hN12, hM⟩ := order_map most
  have hsa := small_any 2 0 0 most
  rw [hM] at hsa
  have HR := Lib.hid (order_right N hN1 hN12)
  have HSA := Lib.hid hsa
  have HZ := Lib.hid hz
  clear hsa hM hz
  simp only [TM.v, ordM] at HSA
  refine callsIn_WR (ro := none) (n := 0).1 (callsIn_of_wp_marks Try.func7 rfl trivial ?_ rfl)
  simp only [Try.ntmps7, List.size_toArray, List.length_cons, List.length_nil, Nat.reduceAdd, Nat.reduceSub, Array.replicate_succ, Array.replicate_zero, List.push_toArray, List.append_toArray, List.nil_append, List.cons_append]
  gi_wp2_with fail
  obtain ⟨W1, hW1⟩ : ∃ W1, W1 = W.alloc (.cells #[.bool false] 4) := ⟨_, rfl⟩
  have RB := Lib.hid (show Box W1 W.heap.size (.bool false) from by rw [hW1]; exact Box.new W _ _)
  have K0 := Lib.hid (show Kept (fun _ => False) W W1 from by rw [hW1]; exact Kept.one_alloc W _)
  rw [← hW1]
  clear hW1
  refine callsIn_WR.2 ((shown_any W1).mono ?_)
  rintro e w1 ⟨rfl, k1⟩
  have K1 := Lib.hid k1
  clear k1
  gi_wp2_with fail
  refine callsIn_WR.2 ((HSA.out w1).mono ?_)
  rintro e w2 ⟨rfl, k2⟩
  have K2 := Lib.hid (K1.out.trans k2 (fun _ _ e => e))
  clear k2
  gi_wp2_with fail
  obtain ⟨q, hq⟩ : ∃ q, q = w2.heap.size := ⟨_, rfl⟩
  obtain ⟨W0, hW0⟩ : ∃ W0, W0 = w2.alloc (.cells #[.string ⟨#[109]⟩, .int .i64 3, .int .i64 1, .int .i64 1, .int .i64 (N : Int)] 23) := ⟨_, rfl⟩
  have HB := Lib.hid (show MBox W0 q (ordM N) from by rw [hW0, hq]; exact MBox.new w2 (ordM N) 23)
  have KW := Lib.hid (show Kept (fun _ => False) W1 W0 from K2.out.trans (by rw [hW0]; exact Kept.one_alloc _ _) (fun _ _ e => e))
  rw [← hW0, ← hq]
  have NEW := Lib.hid (show Calls Try.prog 14 #[.agg #[.string ⟨#[109]⟩, .int .i64 3, .int .i64 1, .int .i64 1, .int .i64 (N : Int)]] W0 _ from by have h := ses_new HR.out W0; exact h)
  have HQ := Lib.hid (show W.heap.size < q from by rw [hq]; exact Nat.lt_of_lt_of_le RB.out.lt K2.out.size)
  clear K1 K2 hW0 hq
  refine callsIn_WR.2 (NEW.out.mono ?_)
  rintro e w4 ⟨bt, rfl, hs1, k4⟩
  rw [show newP (ordM N) = [] from by unfold newP; rw [if_neg (by show ¬ (3 : Int) = 1; decide)]] at hs1
  have OST := Lib.hid (ost_start hs1 k4 34)
  obtain ⟨ob, hob⟩ : ∃ ob, w4.heap.size = ob := ⟨_, rfl⟩
  obtain ⟨w5, hw5⟩ : ∃ w5, w4.alloc (.cells #[.slice none 0 0] 34) = w5 := ⟨_, rfl⟩
  rw [hw5, hob] at OST
  clear hs1 k4 NEW
  gi_wp2_with fail
  try rw [hw5]
  try rw [hob]
  clear hw5 hob
  gi_loopw [10] (fun i wr => ∃ (k : Nat) (P : List Pr), k ≤ N ∧ i = .int .i64 k ∧ OSt W0 (ordM N) bt ob P (List.range k) wr ∧ KeysOf P (List.range k)) (fun i _ => N - (intOf i).toNat)
  case atStart => exact ⟨0, [], by omega, rfl, OST.out, rfl, List.nodup_nil, fun u hu => by cases hu⟩
  case round =>
    obtain ⟨k, P, hk, rfl, hst, hks⟩ := hrel
    clear OST
    have hb := HB.out.kept hst.back (fun e => e)
    have d4 : wr.cell? ⟨q, 4, none⟩ = some (.int .i64 (N : Int)) := hb.c4
    have ST := Lib.hid (And.intro hst hks)
    clear hb hst hks
    by_cases hlt : k < N
    · gi_wp2_with fail
      obtain ⟨kt, bk, bv⟩ := two_bytes wr 5 k 1 (by omega) (by omega)
      refine callsIn_WR.2 ((ost_upd (c := 1) (vc := 1) (fl := 0) ST.out.1 kt bk bv (fun b o e => by cases e; omega)).mono ?_)
      rintro e w6 ⟨rfl, hst6⟩
      have hks6 := law_add (N := N) (v := b1 1) ST.out.2 (by omega : k < 256) (by simp) rfl (by simpa using hlt)
      rw [← List.range_succ] at hks6
      have ST6 := Lib.hid (And.intro hst6 hks6)
      obtain ⟨F, o, -, ho, hrow, -, hoo, -⟩ := hst6.ex
      have hco := ho.cell
      have hrow2 := ownsRow_kept hrow (Kept.one_alloc w6 (.cells #[.int .u8 (k : Int)] 5)) (fun _ _ e => e)
      clear kt bk bv hst6 hks6 d4
      generalize codeP (ordM N) (b1 k) (b1 1) 0 P = cd
      gi_wp2_with (first
        | (gi_at_builtin; refine wpListW_append_mine (v := o) rfl _ _ u8E rfl rfl hrow2 (some ⟨w6.heap.size, 0, none⟩) 1 1 [.int .u8 (k : Int)] rfl rfl (holds_block (heap_alloc_new w6 _)) (by simp [Value.oneCell']) (by unfold maxLen; simp; omega) (by simp; omega) ?_
           intro a' c' w' h2 h3 h4
           have bo4 := (ho.alloc (.cells #[.int .u8 (k : Int)] 5)).kept h3 (fun e => hoo e)
           have hco4 := bo4.cell
           have hfo4 := bo4.frozen
           go_frame)
        | fail)
      have h2' : w'.ownsRow 0 5 1 (.slice a' (k + 1) c') (List.range (k + 1)).length (u8s (List.range (k + 1))) := by
        rw [List.range_succ]
        simpa [u8s] using h2
      have hown : (Value.slice a' (k + 1) c').ownBlock = o.ownBlock ∨ (Value.slice a' (k + 1) c').ownBlock = some (w6.alloc (.cells #[.int .u8 (k : Int)] 5)).heap.size := by
        simpa using h4
      refine ⟨⟨k + 1, _, by omega, by go_num, OSt.row ST6.out.1 ho (S := fun b => o.ownBlock = some b) (((Kept.one_alloc w6 _).mono (fun _ _ e => e.elim)).trans h3 (fun _ _ e => e)) (fun b e => .inl e) h2' (fun b e => ?_), ST6.out.2⟩, by simp [intOf]; omega⟩
      rcases hown with h | h
      · exact .inl (h ▸ e)
      · rw [h] at e
        cases e
        exact .inr (by simp)
    · obtain rfl : k = N := by omega
      obtain ⟨os, hos⟩ : ∃ os, os = List.range k := ⟨_, rfl⟩
      have S0 := Lib.hid (show ∃ os, OSt W0 (ordM k) bt ob P os wr ∧ KeysOf P os ∧ os.length = k ∧ ∀ u, u ∈ os ↔ u < k from ⟨_, ST.out.1, ST.out.2, by simp, fun u => by simp⟩)
      clear hos os
      gi_wp2_with fail
      clear d4 hlt
      gi_loopw [11, 12, 13, 14] (fun i x12 x13 x14 wr => ∃ (j : Nat) (P : List Pr) (os : List Nat), j ≤ n ∧ j ≤ 30 ∧ i = .int .i64 j ∧ OSt W0 (ordM k) bt ob P os wr ∧ KeysOf P os ∧ os.length = k ∧ ∀ u, u ∈ os ↔ u < k) (fun i _ _ _ _ => n - (intOf i).toNat)
      case atStart =>
        obtain ⟨os, h1, h2, h3, h4⟩ := S0.out
        exact ⟨0, P, os, by omega, by omega, rfl, h1, h2, h3, h4⟩
      case round =>
        obtain ⟨j, P, os, hj, hj30, rfl, hst, hks, hlen, hmem⟩ := hrel
        clear S0 ST
        have hb := HB.out.kept hst.back (fun e => e)
        have d4 : wr.cell? ⟨q, 4, none⟩ = some (.int .i64 (k : Int)) := hb.c4
        have ST := Lib.hid (And.intro hst (And.intro hks (And.intro hlen hmem)))
        have kW := K0.out.trans (KW.out.trans hst.back (fun _ _ e => e)) (fun _ _ e => e)
        have KWR := Lib.hid kW
        clear hb hst hks hlen hmem kW
        by_cases hlt : j < n ∧ j < 30
        · obtain ⟨hlt, h30⟩ := hlt
          obtain ⟨b, o, rfl, hbW, hcz, hz0, hz255⟩ := HZ.out j hlt
          have hcz2 : wr.cell? ⟨b, o + j, none⟩ = some (.int .u8 (z j)) := (KWR.out.cell (p := ⟨b, o + j, none⟩) hbW (fun e => e)).trans hcz
          obtain ⟨zj, hzj⟩ : ∃ zj : Nat, z j = (zj : Int) ∧ zj < 256 := ⟨(z j).toNat, by omega, by omega⟩
          rw [hzj.1] at hcz2
          have hzj2 := hzj.2
          clear hcz hz0 hz255 hzj
          gi_wp2_with fail
          obtain ⟨w5, hw5, t5⟩ : ∃ w5, w5 = ({ wr with drawn := wr.drawn + 1 } : World) ∧ Twin w5 wr := ⟨_, rfl, rfl, rfl, rfl, rfl⟩
          refine wpW_region_still (by kernel_rfl) (by kernel_rfl) ?_
          rw [← hw5]
          have d45 : w5.cell? ⟨q, 4, none⟩ = some (.int .i64 (k : Int)) := by obtain ⟨_, rfl⟩ := t5.eq; exact d4
          have hcz5 : w5.cell? ⟨b, o + j, none⟩ = some (.int .u8 (zj : Int)) := by obtain ⟨_, rfl⟩ := t5.eq; exact hcz2
          have T5 := Lib.hid t5
          have hwk : IntKind.u8.wrap (k : Int) = (k : Int) := IntWalk.u8_in _ (by omega)
          have hk0 : ¬ (k = 0) := by omega
          obtain ⟨y, hy, hyk⟩ : ∃ y : Nat, ((zj : Int) / 2).tmod (k : Int) = (y : Int) ∧ y < k := ⟨zj / 2 % k, by rw [← tmod_nat]; rfl, Nat.mod_lt _ (by omega)⟩
          clear hw5 t5 d4 hcz2
          iterate 10 (with_reducible refine wpStill_want (by kernel_rfl) (fun K hK => ?_); go_simp; with_reducible refine hK _ ?_; clear hK K)
          refine wpStill_nil ?_
          clear d45 hwk hk0 hy
          obtain ⟨pb, hpb⟩ : ∃ pb, (bits BinOp.and IntKind.u8 (zj : Int) 1 == 0) = pb := ⟨_, rfl⟩
          have hym : y ∈ os := (ST.out.2.2.2 y).2 hyk
          cases pb
          case' true =>
            gi_wp2_with fail
            refine callsIn_WR.2 ((ost_look (c := 1) ST.out.1 (((Kept.refl (fun _ => False) wr).twin T5.out).trans (Kept.one_alloc w5 _) (fun _ _ e => e)) (bytes_one w5 5 y (by omega) _ rfl)).mono ?_)
            rintro e wq ⟨x, rfl, hst⟩
            have SQ := Lib.hid (show ∃ P', OSt W0 (ordM k) bt ob P' os wq ∧ KeysOf P' (moveU y os) from ⟨_, hst, law_use ST.out.2.1 hym⟩)
            generalize (lookP (b1 y) P).isSome = lk
            clear hst hcz5 hpb
            gi_wp2_with fail
          case' false =>
            gi_wp2_with fail
            obtain ⟨kt, bk, bv⟩ := two_bytes w5 5 y 2 (by omega) (by omega)
            refine callsIn_WR.2 ((ost_upd (c := 1) (vc := 1) (fl := 0) ST.out.1 (((Kept.refl (fun _ => False) wr).twin T5.out).trans kt (fun _ _ e => e)) bk bv (fun b o e => by cases e; have := ((Kept.refl (fun _ => False) wr).twin T5.out).size; omega)).mono ?_)
            rintro e wq ⟨rfl, hst⟩
            have SQ := Lib.hid (show ∃ P', OSt W0 (ordM k) bt ob P' os wq ∧ KeysOf P' (moveU y os) from ⟨_, hst, law_upd ST.out.2.1 hym rfl⟩)
            generalize codeP (ordM k) (b1 y) (b1 2) 0 P = cd
            clear hst hcz5 hpb kt bk bv
            gi_wp2_with fail
          all_goals
            obtain ⟨P', hst, hks⟩ := SQ.out
            obtain ⟨F, ov, -, ho, hrow, -, hoo, hlt6⟩ := hst.ex
            obtain ⟨ga, gc, rfl, hga, -, hgc⟩ := own_form hrow
            obtain ⟨g, rfl⟩ := hga (by rw [ST.out.2.2.1]; omega)
            rw [ST.out.2.2.1] at ho hrow hoo hlt6 hgc
            have Q := Lib.hid (And.intro hst (And.intro hks (And.intro ho (And.intro hrow (And.intro hoo hlt6)))))
            clear hst hks ho hrow hoo hlt6 hga SQ
            gi_loopw [13, 14] (fun r i w => ∃ t : Nat, t ≤ k ∧ i = .int .i64 t ∧ w.ownsRow 0 5 1 r ((os.take t).filter fun x => decide (x ≠ y)).length (u8s ((os.take t).filter fun x => decide (x ≠ y))) ∧ (∀ b, r.ownBlock = some b → wq.heap.size ≤ b) ∧ Kept (fun b => wq.heap.size ≤ b) wq w) (fun _ i _ => k - (intOf i).toNat)
            case atStart => exact ⟨0, by omega, rfl, ⟨by simp [u8s], .inl ⟨rfl, rfl⟩⟩, fun b e => by simp [Value.ownBlock] at e, .refl _ _⟩
            case round =>
              rename_i wr0 _
              obtain ⟨t, ht, rfl, hr, hrb, kq⟩ := hrel
              have hob9 := (Q.out.2.2.2.2.2 ob (.inr (.inr rfl))).2
              have hg9 := (Q.out.2.2.2.2.2 g (.inr (.inl rfl))).2
              have hco : wr.cell? ⟨ob, 0, none⟩ = some (.slice (some ⟨g, 0, none⟩) k gc) := (kq.cell (p := ⟨ob, 0, none⟩) hob9 (by simp; omega)).trans Q.out.2.2.1.cell
              have HRW := Lib.hid (And.intro hr (And.intro hrb kq))
              by_cases htk : t < k
              · have htl : t < os.length := by rw [ST.out.2.2.1]; exact htk
                have hcg : wr.cell? ⟨g, t, none⟩ = some (.int .u8 ((os[t] : Nat) : Int)) := (kq.cell (p := ⟨g, t, none⟩) hg9 (by simp; omega)).trans (own_cell Q.out.2.2.2.1 (by unfold u8s; rw [List.getElem?_map, List.getElem?_eq_getElem htl]; rfl))
                have htake : os.take (t + 1) = os.take t ++ [os[t]] := List.take_succ_eq_append_getElem htl
                obtain ⟨κ, hκ⟩ : ∃ κ, os[t] = κ := ⟨_, rfl⟩
                rw [hκ] at hcg htake
                have hgt : (t : Int) < (k : Int) := by omega
                by_cases hky : κ = y
                · have hne : (((κ : Nat) : Int) != (y : Int)) = false := by rw [hky]; simp
                  have htake2 : ((os.take (t + 1)).filter fun x => decide (x ≠ y)) = (os.take t).filter fun x => decide (x ≠ y) := by rw [htake, List.filter_append]; simp [hky]
                  have HT := Lib.hid htake2
                  clear htake htake2 hky hκ hr hrb
                  gi_wp2_with fail
                  go_roundw
                  case rel => exact ⟨t + 1, by omega, by go_num, by rw [HT.out]; exact HRW.out.1, HRW.out.2.1, HRW.out.2.2⟩
                  case measure => simp [intOf]; omega
                · have hne : (((κ : Nat) : Int) != (y : Int)) = true := by rw [bne_iff_ne]; omega
                  have htake2 : ((os.take (t + 1)).filter fun x => decide (x ≠ y)) = ((os.take t).filter fun x => decide (x ≠ y)) ++ [κ] := by rw [htake, List.filter_append]; simp [hky]
                  have hlen2 : ((os.take t).filter fun x => decide (x ≠ y)).length ≤ t := Nat.le_trans (List.length_filter_le _ _) (by simp; omega)
                  have HT := Lib.hid htake2
                  generalize ((os.take t).filter fun x => decide (x ≠ y)) = ft at hr htake2 HT HRW hlen2
                  obtain ⟨fl, hfl⟩ : ∃ fl, ft.length = fl := ⟨_, rfl⟩
                  have hr2 := ownsRow_kept hr (Kept.one_alloc wr (.cells #[.int .u8 (κ : Int)] 5)) (fun _ _ e => e)
                  rw [hfl] at hr2 hlen2
                  have HFL := Lib.hid hfl
                  clear htake htake2 hky hκ hr hrb hfl
                  gi_wp2_with (first
                    | (gi_at_builtin; refine wpListW_append_mine (v := u13) rfl _ _ u8E rfl rfl hr2 (some ⟨wr.heap.size, 0, none⟩) 1 1 [.int .u8 (κ : Int)] rfl rfl (holds_block (heap_alloc_new wr _)) (by simp [Value.oneCell']) (by unfold maxLen; omega) (by omega) ?_
                       intro a' c' w' h2 h3 h4
                       go_frame)
                    | fail)
                  have hown : (Value.slice a' (fl + 1) c').ownBlock = u13.ownBlock ∨ (Value.slice a' (fl + 1) c').ownBlock = some (wr.alloc (.cells #[.int .u8 (κ : Int)] 5)).heap.size := by simpa using h4
                  refine ⟨⟨t + 1, by omega, by go_num, by rw [HT.out, List.length_append, HFL.out]; simpa [u8s] using h2, fun b e => ?_, ?_⟩, by simp [intOf]; omega⟩
                  · rcases hown with h | h
                    · exact HRW.out.2.1 b (h ▸ e)
                    · rw [h] at e
                      cases e
                      have := HRW.out.2.2.size
                      simp
                      omega
                  · exact (HRW.out.2.2.trans (Kept.one_alloc wr _) (fun _ _ e => e.elim)).trans h3 (fun b _ e => HRW.out.2.1 b e)
              · obtain rfl : t = k := by omega
                have hcoB : Box wr ob (.slice (some ⟨g, 0, none⟩) t gc) := Q.out.2.2.1.kept kq (by simp; omega)
                rw [List.take_of_length_le (by rw [ST.out.2.2.1]; omega)] at hr HRW
                have hml := moveU_len ST.out.2.1.nd hym
                unfold moveU at hml
                rw [List.length_append, ST.out.2.2.1] at hml
                have hks : KeysOf P' (moveU y os) := Q.out.2.1
                generalize hft : (os.filter fun x => decide (x ≠ y)) = ft at hr HRW hml
                obtain ⟨fl, hfl⟩ : ∃ fl, ft.length = fl := ⟨_, rfl⟩
                have hr2 := ownsRow_kept hr (Kept.one_alloc wr (.cells #[.int .u8 (y : Int)] 5)) (fun _ _ e => e)
                rw [hfl] at hr2 hml
                have HFL := Lib.hid (And.intro hfl (And.intro hft hcoB))
                have hml : fl + 1 = t := hml
                have hgt : ¬ ((t : Int) < (t : Int)) := by omega
                have hnb := Q.out.2.2.2.2.2
                have hcb : ∀ w', Kept (fun b => u13.ownBlock = some b) (wr.alloc (.cells #[.int .u8 (y : Int)] 5)) w' → Box w' ob (.slice (some ⟨g, 0, none⟩) t gc) := fun w' k => (hcoB.alloc _).kept k (fun e => by have := hrb ob e; omega)
                have HCB := Lib.hid hcb
                clear hr hfl hft hcoB hnb hcb
                gi_wp2_with (first
                  | (gi_at_builtin; refine wpListW_append_mine (v := u13) rfl _ _ u8E rfl rfl hr2 (some ⟨wr.heap.size, 0, none⟩) 1 1 [.int .u8 (y : Int)] rfl rfl (holds_block (heap_alloc_new wr _)) (by simp [Value.oneCell']) (by unfold maxLen; omega) (by omega) ?_
                     intro a' c' w' h2 h3 h4
                     have bo4 := HCB.out w' h3
                     have hco4 := bo4.cell
                     have hfo4 := bo4.frozen
                     go_frame)
                  | fail)
                have hown : (Value.slice a' t c').ownBlock = u13.ownBlock ∨ (Value.slice a' t c').ownBlock = some (wr.alloc (.cells #[.int .u8 (y : Int)] 5)).heap.size := by simpa [hml] using h4
                have hmv : moveU y os = ft ++ [y] := by unfold moveU; rw [HFL.out.2.1]
                have hmvl : (moveU y os).length = t := by rw [hmv, List.length_append, HFL.out.1]; exact hml
                have h2' : w'.ownsRow 0 5 1 (.slice a' t c') (moveU y os).length (u8s (moveU y os)) := by
                  rw [hmvl, hmv]
                  simpa [u8s, hml] using h2
                refine ⟨⟨j + 1, P', moveU y os, by omega, by omega, by go_num, OSt.row Q.out.1 Q.out.2.2.1 (S := fun b => wq.heap.size ≤ b) ((HRW.out.2.2.trans (Kept.one_alloc wr _) (fun _ _ e => e.elim)).trans h3 (fun b _ e => HRW.out.2.1 b e)) (fun b e => .inr e) h2' (fun b e => .inr ?_), hks, hmvl, fun u => (moveU_mem hym u).trans (ST.out.2.2.2 u)⟩, by simp [intOf]; omega⟩
                rcases hown with h | h
                · exact HRW.out.2.1 b (h ▸ e)
                · rw [h] at e
                  cases e
                  have := HRW.out.2.2.size
                  simp
                  omega
        · have hsp : (j < n ∧ j = 30) ∨ ¬ j < n := by omega
          rcases hsp with ⟨hlt, rfl⟩ | hlt
          all_goals
            gi_wp2_with fail
            obtain ⟨o0, hbo, hro, hoo, hob, hob0, hsx⟩ := ST.out.1.sx
            obtain ⟨ga, gc, rfl, hga, -, hgc⟩ := own_form hro
            obtain ⟨g, rfl⟩ := hga (by rw [ST.out.2.2.1]; omega)
            rw [ST.out.2.2.1] at hbo hro hoo hob hsx hgc
            have hg0 := hob g rfl
            have hgob : g ≠ ob := fun e => hoo (by rw [← e]; rfl)
            have hobl := hbo.lt
            have SXW := Lib.hid (And.intro hbo (And.intro hro hsx))
            obtain ⟨ib, hib⟩ : ∃ ib, wr.heap.size = ib := ⟨_, rfl⟩
            obtain ⟨w6, hw6⟩ : ∃ w6, w6 = wr.alloc (.cells #[.int .i64 0] 3) := ⟨_, rfl⟩
            have k6 : Kept (fun _ => False) wr w6 := by rw [hw6]; exact Kept.one_alloc _ _
            have ib6 : Box w6 ib (.int .i64 ((0 : Nat) : Int)) := by rw [hw6, ← hib]; exact Box.new wr _ _
            rw [← hw6, hib]
            clear hw6 hro hoo hbo hob hga
            obtain ⟨F, hses, hFx⟩ := hsx
            obtain ⟨iv, E, F2, hT, hE, hF⟩ := hses
            refine callsIn_WR.2 ((all_any bt w6).mono ?_)
            rintro e W6 ⟨bx, rfl, hbx, k7, g7⟩
            have hnf := run_eq_nilFunc (P := Try.prog) W6 (.func 38) #[] #[.pointer (some ⟨bx, 0, none⟩)] Try.underlying48
            have k67 := k6.trans k7 (fun _ _ e => e)
            have hT6 := hT.kept k67 (fun _ _ e => e)
            have hRd : AllRd bx bt (ordM k) iv E F2 W6 := ⟨hbx.cell, hbx.lt, hT6.allR⟩
            have hDF : ∀ b, AllD bt E F2 b → b < ib ∧ b ≠ ob ∧ b ≠ g := fun b hb => by
              have h := hFx b (hF b (hb.imp id (fun h => h.imp id (fun ⟨x, hx, e⟩ => ⟨x, hx, .inl e⟩))))
              exact ⟨by omega, fun e => h.1 (.inl e), fun e => h.1 (.inr (by rw [e]; rfl))⟩
            have H6 := Lib.hid (And.intro hRd (And.intro hDF (And.intro hT6 (And.intro (ib6.kept k7 (fun e => e)) (And.intro k67 (And.intro g7 (And.intro hib hE)))))))
            have hib6 := ib6.lt
            clear hT hE hF hFx hRd hDF hT6 hbx ib6 k6 k7 k67 g7 hib
            gi_wp2_with fail
            obtain ⟨hRd, hDF, hT6, ib6, k67, g7, hib, hE⟩ := H6.out
            have hord : ordT (ordM k) E = E := by unfold ordT; rw [if_neg (by show ¬ (3 : Int) = 2; decide)]
            refine wpW_rangeG (all1_any bx bt (ordM k) iv E F2) rfl all_enters (fun _ => by rfl) (fun (pre : List En) U W' => CountO ib pre.length U W') (fun _ _ _ => False) (fun b => b = ib)
              (fun (pre : List En) U W W' h k => CountO.kept h k) (fun _ _ _ _ h _ => h) ?_ ?_ ?_ hRd (fun W W' h k => h.kept k (fun e => e (.inl rfl)) (fun b hb e => e (.inr hb))) ⟨ib6, rfl⟩ ?_ ?_ (fun _ _ _ _ h => h.elim)
            · rintro b rfl (h | h)
              · omega
              · have := (hDF _ h).1
                omega
            · rintro b (rfl | h)
              · exact hRd.2.1
              · exact hRd.2.2.dlt b h
            · rintro b rfl
              exact ib6.lt
            · intro l pre e rest U' W7 hitems hi hkw hlt' hD' hRd' hl hlD hlW hlw hUU
              rw [hord] at hitems
              obtain ⟨u, hu, hek, hu256, hjl⟩ := ord_at ST.out.2.1 (by rw [hitems]; exact hE)
              have hw6 := k67.size
              have k07 : Kept (fun b => b = ib) wr W7 := (k67.mono fun _ _ e => e.elim).trans hkw (fun _ _ e => e)
              have LK := Lib.hid (And.intro hlt' (And.intro hl k07))
              have HI := Lib.hid hi
              have hlib : ib < l := by have := ib6.lt; omega
              clear hi hlt' hD' hRd' hlD hkw hitems hRd hDF hT6 k67 hnf g7 hE hib ib6 k07 hl
              simp only [encE, List.zip_toArray, List.zip_cons_cons, List.zip_nil_left, List.foldl_toArray', List.foldl_cons, List.foldl_nil, List.setIfInBounds_toArray, List.set_cons_succ, List.set_cons_zero]
              gi_wp2_with (rw [Oper.semAt_eq _ _ _ (fun c h => by cases h)]; go_simp; try go_bits)
              refine ⟨trivial, ?_⟩
              intro W8 kl zl
              obtain ⟨hlt', hl, k07⟩ := LK.out
              have hi8 := HI.out.kept (kl.mono fun b _ e h => by subst e; exact hl h)
              obtain ⟨j2, hj2⟩ : ∃ j2, pre.length = j2 := ⟨_, rfl⟩
              rw [hj2] at hi8 hu hjl
              have hibw : wr.heap.size = ib := H6.out.2.2.2.2.2.2.1
              have k08 : Kept (fun b => b = ib ∨ b = l) wr W8 := (k07.mono fun _ _ e => .inl e).trans kl (fun _ _ e => .inr e)
              have bo8 := SXW.out.1.kept k08 (fun e => by omega)
              have hcg : W8.cell? ⟨g, j2, none⟩ = some (.int .u8 (u : Int)) := (k08.cell (p := ⟨g, j2, none⟩) hg0.2 (by simp; omega)).trans (own_cell SXW.out.2.1 (by unfold u8s; rw [List.getElem?_map, hu]; rfl))
              have hci := hi8.1.cell
              have hco := bo8.cell
              have hcz := (bytes_one W8 5 u hu256 _ rfl).conv (c := 1)
              have hi9 := hi8.1.alloc (.cells #[.int .u8 (u : Int)] 5)
              have hci9 := hi9.cell
              have hfi9 := hi9.frozen
              have hjk : (j2 : Int) < (k : Int) := by have := ST.out.2.2.1; omega
              have hw1 : IntKind.i64.wrap ((j2 : Int) + 1) = (j2 : Int) + 1 := IntWalk.i64_in _ (by omega)
              have B8 := Lib.hid (And.intro hi8 (And.intro hi9 (And.intro kl zl)))
              try rw [hek]
              clear k07 k08 bo8 hi8 hjl hu hi9 kl zl
              gi_wp2_with (rw [Oper.semAt_eq _ _ _ (fun c h => by cases h)]; go_simp; try go_bits)
              obtain ⟨hi8, hi9, kl, zl⟩ := B8.out
              obtain ⟨hlt', hl, k07⟩ := LK.out
              have kr : Kept U' W8 ((W8.alloc (.cells #[.int .u8 (u : Int)] 5)).setCell ⟨ib, 0, none⟩ (.int .i64 ((j2 : Int) + 1))) := ((Kept.one_alloc W8 _).mono (fun _ _ e => e.elim)).trans (Kept.one_set _ ⟨ib, 0, none⟩ _) (fun b _ e => by have e : b = ib := e; rw [e]; exact hi8.2)
              obtain ⟨e1, e2, e3, e4⟩ := round_plain (U := U') kl hl hlt' hlW kr
              exact ⟨e1, _, e2, e3, e4, by rw [List.length_append, hj2]; exact hi9.set _, hi8.2⟩
            · intro items dk U3 W9 hfull hi kW hR hmk hdkl hdkU hUU hUn hUl
              have hEl : E.length = k := by
                have h1 := ST.out.2.1.len
                rw [← H6.out.2.2.2.2.2.2.2, kvs_len, ST.out.2.2.1] at h1
                exact h1
              rw [hfull, hord, hEl] at hi
              have hob9 : wr.heap.size = ib := H6.out.2.2.2.2.2.2.1
              have k9 : Kept (fun b => wr.heap.size ≤ b) wr W9 := (k67.mono fun _ _ e => e.elim).trans kW (fun b hb e => by omega)
              have hdi : dk ≠ ib := by have := ib6.lt; omega
              obtain ⟨hbo, hro, hsx⟩ := SXW.out
              have hO4 := o4_start (nb := W9.heap.size) (w1 := W9.alloc (.cells #[.int .i64 0] 3)) (hsx.more (fun b hb => .inl (hb.imp id (fun e => by cases e; rfl)))) hbo hro ST.out.1.back hgob hg0 hob0 (k9.trans (Kept.one_alloc W9 _) (fun b hb e => e.elim)) (hi.1.alloc _) (by omega) (((Kept.one_alloc W9 _).block dk (Array.getElem?_eq_some_iff.1 hmk).1 (fun e => e)).trans hmk) (by have := k67.size; omega) hdi (Box.new W9 _ 3) k9.size (by have := hi.1.lt; omega) (by have := (Array.getElem?_eq_some_iff.1 hmk).1; omega)
              have OO := Lib.hid (And.intro hO4 (show KeysOf P (ordK os 0) from by unfold ordK; simpa using ST.out.2.1))
              have hlen := ST.out.2.2.1
              have hmem := ST.out.2.2.2
              have hnd := ST.out.2.1.nd
              have HOS := Lib.hid (And.intro hlen (And.intro hmem hnd))
              obtain ⟨nb, hnb⟩ : ∃ nb, W9.heap.size = nb := ⟨_, rfl⟩
              obtain ⟨Wa, hWa⟩ : ∃ Wa, W9.alloc (.cells #[.int .i64 0] 3) = Wa := ⟨_, rfl⟩
              rw [hnb, hWa] at OO
              have HWN := Lib.hid (And.intro hWa hnb)
              clear hWa hnb
              clear hmem hnd hlen hO4 hbo hro hsx hdi k9 hob9 hEl hfull hi kW hR hmk hdkl hdkU hUU hUn hUl hnf hord SXW H6 hRd hDF hT6 ib6 k67 g7 hib hE
              gi_wp2_with fail
              try rw [HWN.out.1]
              try rw [HWN.out.2]
              clear HWN
              refine wpIn_loop_marks0 [17, 18, 19, 128, 129, 130, 131, 132, 133, 134, 135, 136, 137, 138, 139, 140, 141, 142, 143, 144, 145, 146, 147, 148, 149, 150, 151, 152, 153, 154, 155, 156, 157, 158] (k + 1) [dk] (fun dl f w => ∃ (nb j : Nat) (P : List Pr), O4 W0 k bt ob ib g gc os nb j dl P w ∧ KeysOf P (ordK os j) ∧ j ≤ k ∧ dl.length = j + 1 ∧ f 17 = .pointer (some ⟨nb, 0, none⟩)) (by simp) ⟨nb, 0, P, OO.out.1, OO.out.2, by omega, rfl, rfl⟩ ?_
              rintro dl f wl ⟨nb2, j, P2, hO4, hks, hjk, hdl, hf17⟩ -
              simp only [upd, List.foldl_cons, List.foldl_nil, List.setIfInBounds_toArray, List.set_cons_succ, List.set_cons_zero]
              rw [hf17]
              clear hf17
              have hcn := hO4.bn.cell
              have hfn := hO4.bn.frozen
              have hco := hO4.bo.cell
              have O := Lib.hid (And.intro hO4 (And.intro hks hdl))
              clear hO4 hks hdl OO
              by_cases hjk2 : j < k
              · have hw1 : IntKind.i64.wrap (100 + (j : Int)) = 100 + (j : Int) := IntWalk.i64_in _ (by omega)
                have hw2 : IntKind.u8.wrap (100 + (j : Int)) = 100 + (j : Int) := IntWalk.u8_in _ (by omega)
                gi_wp2_with fail
                obtain ⟨kt, bk, bv⟩ := two_bytes wl 5 (100 + j) 3 (by omega) (by omega)
                rw [show ((100 + j : Nat) : Int) = 100 + (j : Int) from by omega] at kt bk bv
                refine callsIn_WR.2 ((o4_upd (c := 1) (vc := 1) (fl := 0) O.out.1 kt bk bv (fun b o e => by cases e; omega)).mono ?_)
                rintro e w6 ⟨rfl, hO6⟩
                have O6 := Lib.hid (And.intro hO6 (law_round HOS.out.1 hN12 (fun u hu => (HOS.out.2.1 u).1 hu) O.out.2.1 hjk2))
                clear hO6 hcn hfn hco kt bk bv hw1 hw2
                generalize codeP (ordM k) (b1 (100 + j)) (b1 3) 0 P2 = cd
                generalize updP (ordM k) (b1 (100 + j)) (b1 3) 0 P2 = P3 at O6
                gi_wp2_with fail
                obtain ⟨F3, hses3, hFx3⟩ := O6.out.1.tab
                obtain ⟨iv3, E3, F4, hT3, hE3, hF3⟩ := hses3
                refine callsIn_WR.2 ((all_any bt w6).mono ?_)
                rintro e W6 ⟨bx3, rfl, hbx3, k7, g7⟩
                have hnf := run_eq_nilFunc (P := Try.prog) W6 (.func 38) #[] #[.pointer (some ⟨bx3, 0, none⟩)] Try.underlying48
                have hRd : AllRd bx3 bt (ordM k) iv3 E3 F4 W6 := ⟨hbx3.cell, hbx3.lt, (hT3.kept k7 (fun _ _ e => e)).allR⟩
                have hord3 : ordT (ordM k) E3 = E3 := by unfold ordT; rw [if_neg (by show ¬ (3 : Int) = 2; decide)]
                have O7 := O6.out.1.keep k7
                have H7 := Lib.hid (And.intro hRd (And.intro O7 (And.intro hE3 hord3)))
                clear hFx3 hT3 hE3 hF3 hbx3 k7 g7 hRd hord3 O7
                gi_wp2_with fail
                refine wpW_rangeG (all1_any bx3 bt (ordM k) iv3 E3 F4) rfl all_enters (fun _ => by rfl) (fun (pre : List En) U W' => True) (fun _ _ _ => False) (fun b => False)
                  (fun _ _ _ _ _ _ => trivial) (fun _ _ _ _ h _ => h) (fun b e => e.elim) ?_ (fun b e => e.elim) H7.out.1 (fun W W' h k => h.kept k (fun e => e (.inl rfl)) (fun b hb e => e (.inr hb))) trivial ?_ ?_ (fun _ _ _ _ h => h.elim)
                · rintro b (rfl | h)
                  · exact H7.out.1.2.1
                  · exact H7.out.1.2.2.dlt b h
                · intro l pre e rest U' W7 hitems hi hkw hlt' hD' hRd' hl hlD hlW hlw hUU
                  rw [H7.out.2.2.2] at hitems
                  obtain ⟨u, hu, hek, hu256, -⟩ := ord_at O6.out.2 (by rw [hitems]; exact H7.out.2.2.1)
                  have hum := List.mem_of_getElem? hu
                  have LK := Lib.hid (And.intro hlt' (And.intro hl (And.intro hlw hkw)))
                  have HUM := Lib.hid (And.intro hum hu256)
                  clear hu hum hitems hi hkw hlt' hD' hRd' hlD hnf hl hlw hUU
                  simp only [encE, List.zip_toArray, List.zip_cons_cons, List.zip_nil_left, List.foldl_toArray', List.foldl_cons, List.foldl_nil, List.setIfInBounds_toArray, List.set_cons_succ, List.set_cons_zero]
                  gi_wp2_with (rw [Oper.semAt_eq _ _ _ (fun c h => by cases h)]; go_simp; try go_bits)
                  refine ⟨trivial, ?_⟩
                  intro W8 kl zl
                  have O8 := Lib.hid (H7.out.2.1.above ((LK.out.2.2.2.mono (fun _ _ e => e.elim)).trans kl (fun b hb e => by subst e; exact LK.out.2.2.1)))
                  have KL := Lib.hid (And.intro kl zl)
                  clear kl zl
                  try rw [hek]
                  clear hek
                  gi_wp2_with (rw [Oper.semAt_eq _ _ _ (fun c h => by cases h)]; go_simp; try go_bits)
                  gi_loopw [19] (fun i wr => ∃ y : Nat, y ≤ j + 1 ∧ i = .int .i64 y ∧ Kept (fun _ => False) W8 wr) (fun i _ => j + 1 - (intOf i).toNat)
                  case atStart => exact ⟨0, by omega, rfl, .refl _ _⟩
                  case round =>
                    obtain ⟨y, hy, rfl, kq⟩ := hrel
                    have O9 := O8.out.keep kq
                    have hcn := O9.bn.cell
                    have hco := O9.bo.cell
                    have KQ := Lib.hid kq
                    clear kq
                    by_cases hyj : y ≤ j
                    · have hyl : y < os.length := by rw [HOS.out.1]; omega
                      have hcg : wr.cell? ⟨g, y, none⟩ = some (.int .u8 ((os[y] : Nat) : Int)) := own_cell O9.row (by unfold u8s; rw [List.getElem?_map, List.getElem?_eq_getElem hyl]; rfl)
                      have hov : os[y] < 256 := by have := (HOS.out.2.1 os[y]).1 (List.getElem_mem _); omega
                      have hne := ordK_out HOS.out.1 hN12 (fun u hu => (HOS.out.2.1 u).1 hu) HOS.out.2.2 HUM.out.1 (by omega : y < j + 1) hyl
                      obtain ⟨v, hv⟩ : ∃ v, os[y] = v := ⟨_, rfl⟩
                      rw [hv] at hcg hov hne
                      have hne1 : ¬ b1 u = b1 v := fun h => hne (b1_inj HUM.out.2 hov h)
                      have hcv := (bytes_one wr 5 v hov _ rfl).conv (c := 1)
                      obtain ⟨s2, hs2⟩ : ∃ s2, b1 v = s2 := ⟨_, rfl⟩
                      obtain ⟨s1, hs1⟩ : ∃ s1, b1 u = s1 := ⟨_, rfl⟩
                      have hne3 : (s1.toList == s2.toList) = false := bytes_ne (by rw [← hs1, ← hs2]; exact hne1)
                      rw [hs2] at hcv
                      rw [hs1]
                      have hyk : (y : Int) < (k : Int) := by omega
                      clear hs1 hs2 hv hne hne1 O9
                      gi_wp2_with (rw [Oper.semAt_eq _ _ _ (fun c h => by cases h)]; go_simp; try go_bits)
                      go_roundw
                      case rel => exact ⟨y + 1, by omega, by go_num, KQ.out.trans (Kept.one_alloc wr _) (fun _ _ e => e)⟩
                      case measure => simp [intOf]; omega
                    · obtain rfl : y = j + 1 := by omega
                      gi_wp2_with (rw [Oper.semAt_eq _ _ _ (fun c h => by cases h)]; go_simp; try go_bits)
                      obtain ⟨e1, e2, e3, e4⟩ := round_plain (U := U') KL.out.1 LK.out.2.1 LK.out.1 hlW (KQ.out.mono fun _ _ e => e.elim)
                      exact ⟨e1, _, e2, e3, e4, trivial⟩
                · intro items dk2 U3 W9 hfull hi kW hR hmk hdkl hdkU hUU hUn hUl
                  have k69 := kW
                  have O9 := H7.out.2.1.keep kW
                  have hcn := O9.bn.cell
                  have hw3 : IntKind.i64.wrap ((j : Int) + 1) = (j : Int) + 1 := IntWalk.i64_in _ (by omega)
                  have hO10 := H7.out.2.1.next (nb' := W9.heap.size) (w1 := W9.alloc (.cells #[.int .i64 ((j : Int) + 1)] 3)) (kW.trans (Kept.one_alloc W9 _) (fun _ _ e => e)) (((Kept.one_alloc W9 _).block dk2 (Array.getElem?_eq_some_iff.1 hmk).1 (fun e => e)).trans hmk) hdkl (Box.new W9 _ 3) kW.size (by have := (Array.getElem?_eq_some_iff.1 hmk).1; omega)
                  have O10 := Lib.hid hO10
                  clear hO10 k69 O9 hfull hi kW hR hmk hdkl hdkU hUU hUn hUl hnf
                  gi_wp2_with fail
                  refine ⟨dk2 :: dl, ⟨W9.heap.size, j + 1, P3, O10.out, O6.out.2, by omega, by rw [List.length_cons, O.out.2.2], rfl⟩, ?_, by simp, by rw [List.length_cons, O.out.2.2]; omega⟩
                  kernel_rfl
              · obtain rfl : j = k := by omega
                have hci : wl.cell? ⟨ib, 0, none⟩ = some (.int .i64 (j : Int)) := O.out.1.bi.cell
                have hrb : W.heap.size < W0.heap.size := Nat.lt_of_lt_of_le RB.out.lt KW.out.size
                have LEN := Lib.hid (show ∀ W', Kept (fun _ => False) wl W' → Calls Try.prog 17 #[.pointer (some ⟨bt, 0, none⟩)] W' fun e w' => e = .returned (.int .i64 (j : Int)) ∧ Kept (fun _ => False) wl w' from by
                  intro W' kk
                  obtain ⟨F3, h3, -⟩ := O.out.1.tab
                  refine (ses_len (h3.keep kk)).mono ?_
                  rintro e w' ⟨rfl, k'⟩
                  refine ⟨?_, kk.trans k' (fun _ _ e => e)⟩
                  rw [O.out.2.1.len, ordK_len HOS.out.1 (by omega)])
                have RBX := Lib.hid (show Box wl W.heap.size (.bool false) ∧ Kept (fun _ => False) W wl ∧ ∀ b ∈ ob :: g :: ib :: nb2 :: dl, W.heap.size < b from
                  ⟨(RB.out.kept KW.out (fun e => e)).kept O.out.1.back (fun e => e), (K0.out.trans KW.out (fun _ _ e => e)).trans O.out.1.back (fun _ _ e => e), fun b hb => by have := O.out.1.at' b hb; omega⟩)
                have CELLS := Lib.hid (show ∀ w', Kept (fun b => b = W.heap.size) wl w' → w'.cell? ⟨ib, 0, none⟩ = some (.int .i64 (j : Int)) ∧ w'.cell? ⟨q, 4, none⟩ = some (.int .i64 (j : Int)) from fun w' kk => by
                  have hq := HB.out.row.lt
                  have hib3 := RBX.out.2.2 ib (by simp)
                  refine ⟨(O.out.1.bi.kept kk (by omega)).cell, ((HB.out.kept O.out.1.back (fun e => e)).kept kk ?_).c4⟩
                  have := HQ.out
                  omega)
                gi_wp2_with fail
                refine wpW_region_held (S := fun w' => w'.cell? ⟨ib, 0, none⟩ = some (.int .i64 (j : Int)) ∧ w'.cell? ⟨q, 4, none⟩ = some (.int .i64 (j : Int))) (by kernel_rfl) (by kernel_rfl) (by rintro ⟨_, _, h⟩; first | exact h.elim | (obtain ⟨h1, -⟩ := h; cases h1)) ?_ (fun hHeld => ?_)
                · exact CELLS.out _ ((Kept.refl _ _).twin ⟨rfl, rfl, rfl, rfl⟩)
                refine held_take 0 (oi := _) (v := ?_) rfl (by kernel_rfl) (by kernel_rfl) (by kernel_rfl) (fun _ _ _ h => h) (by rfl) (fun w hSw => ?_) (by assumption) ?_
                rotate_left
                · (try dsimp only at hSw); go_simp; try with_reducible rfl
                try simp only [Act.put, List.setIfInBounds_toArray, List.set_cons_zero, List.set_cons_succ]
                refine held_take 1 (oi := _) (v := ?_) rfl (by kernel_rfl) (by kernel_rfl) (by kernel_rfl) (fun _ _ _ h => h) (by rfl) (fun w hSw => ?_) (by assumption) ?_
                rotate_left
                · (try dsimp only at hSw); go_simp; try with_reducible rfl
                try simp only [Act.put, List.setIfInBounds_toArray, List.set_cons_zero, List.set_cons_succ]
                refine held_take 2 (oi := _) (v := ?_) rfl (by kernel_rfl) (by kernel_rfl) (by kernel_rfl) (fun _ _ _ h => h) (by rfl) (fun w hSw => ?_) (by assumption) ?_
                rotate_left
                · (try dsimp only at hSw); go_simp; try with_reducible rfl
                try simp only [Act.put, List.setIfInBounds_toArray, List.set_cons_zero, List.set_cons_succ]
                refine held_take 3 (oi := _) (v := ?_) rfl (by kernel_rfl) (by kernel_rfl) (by kernel_rfl) (fun _ _ _ h => h) (by rfl) (fun w hSw => ?_) (by assumption) ?_
                rotate_left
                · (try dsimp only at hSw); go_simp; try with_reducible rfl
                try simp only [Act.put, List.setIfInBounds_toArray, List.set_cons_zero, List.set_cons_succ]
                refine held_take 4 (oi := _) (v := ?_) rfl (by kernel_rfl) (by kernel_rfl) (by kernel_rfl) (fun _ _ _ h => h) (by rfl) (fun w hSw => ?_) (by assumption) ?_
                rotate_left
                · (try dsimp only at hSw); go_simp; try with_reducible rfl
                try simp only [Act.put, List.setIfInBounds_toArray, List.set_cons_zero, List.set_cons_succ]
                refine held_take 5 (oi := _) (v := ?_) rfl (by kernel_rfl) (by kernel_rfl) (by kernel_rfl) (fun _ _ _ h => h) (by rfl) (fun w hSw => ?_) (by assumption) ?_
                rotate_left
                · (try dsimp only at hSw); go_simp; try with_reducible rfl
                try simp only [Act.put, List.setIfInBounds_toArray, List.set_cons_zero, List.set_cons_succ]
                refine held_take 6 (oi := _) (v := ?_) rfl (by kernel_rfl) (by kernel_rfl) (by kernel_rfl) (fun _ _ _ h => h) (by rfl) (fun w hSw => ?_) (by assumption) ?_
                rotate_left
                · (try dsimp only at hSw); go_simp; try with_reducible rfl
                try simp only [Act.put, List.setIfInBounds_toArray, List.set_cons_zero, List.set_cons_succ]
                refine held_take 7 (oi := _) (v := ?_) rfl (by kernel_rfl) (by kernel_rfl) (by kernel_rfl) (fun _ _ _ h => h) (by rfl) (fun w hSw => ?_) (by assumption) ?_
                rotate_left
                · (try dsimp only at hSw); go_simp; try with_reducible rfl
                try simp only [Act.put, List.setIfInBounds_toArray, List.set_cons_zero, List.set_cons_succ]
                refine held_take 8 (oi := _) (v := ?_) rfl (by kernel_rfl) (by kernel_rfl) (by kernel_rfl) (fun _ _ _ h => h) (by rfl) (fun w hSw => ?_) (by assumption) ?_
                rotate_left
                · (try dsimp only at hSw); go_simp; try with_reducible rfl
                try simp only [Act.put, List.setIfInBounds_toArray, List.set_cons_zero, List.set_cons_succ]
                refine held_take 10 (oi := _) (v := ?_) rfl (by kernel_rfl) (by kernel_rfl) (by kernel_rfl) (fun _ _ _ h => h) (by rfl) (fun w hSw => ?_) (by assumption) ?_
                rotate_left
                · (try dsimp only at hSw); go_simp; try with_reducible rfl
                try simp only [Act.put, List.setIfInBounds_toArray, List.set_cons_zero, List.set_cons_succ]
                refine held_take 11 (oi := _) (v := ?_) rfl (by kernel_rfl) (by kernel_rfl) (by kernel_rfl) (fun _ _ _ h => h) (by rfl) (fun w hSw => ?_) (by assumption) ?_
                rotate_left
                · (try dsimp only at hSw); go_simp; try with_reducible rfl
                try simp only [Act.put, List.setIfInBounds_toArray, List.set_cons_zero, List.set_cons_succ]
                refine wpAnyH_ready (rs := [9]) (by kernel_rfl) (by simp) ?_
                refine held_cons 9 (o := _) rfl (fun KC hKC => ?_) AllReadyH.nil
                go_simp
                with_reducible refine Calls.mono (LEN.out _ ?_) ?_
                · exact (Kept.refl _ _).twin ⟨rfl, rfl, rfl, rfl⟩
                rintro e1 wB ⟨rfl, kB⟩
                have KB := Lib.hid kB
                have bR := RBX.out.1.kept kB (fun e => e)
                have hcr := bR.cell
                have hfr := bR.frozen
                clear kB bR
                dsimp only
                refine hKC.out _ _ ?_ (fun hHeld => ?_)
                · first | exact CELLS.out _ (KB.out.mono fun _ _ e => e.elim) | exact CELLS.out _ ((KB.out.mono fun _ _ e => e.elim).trans (Kept.one_set wB ⟨W.heap.size, 0, none⟩ (.bool true)) (fun _ _ e => e))
                clear hKC KC
                try simp only [Act.put, List.setIfInBounds_toArray, List.set_cons_zero, List.set_cons_succ]
                refine held_take 12 (oi := _) (v := ?_) rfl (by kernel_rfl) (by kernel_rfl) (by kernel_rfl) (fun _ _ _ h => h) (by rfl) (fun w hSw => ?_) (by assumption) ?_
                rotate_left
                · (try dsimp only at hSw); go_simp; try with_reducible rfl
                try simp only [Act.put, List.setIfInBounds_toArray, List.set_cons_zero, List.set_cons_succ]
                refine held_take 13 (oi := _) (v := ?_) rfl (by kernel_rfl) (by kernel_rfl) (by kernel_rfl) (fun _ _ _ h => h) (by rfl) (fun w hSw => ?_) (by assumption) ?_
                rotate_left
                · (try dsimp only at hSw); go_simp; try with_reducible rfl
                try simp only [Act.put, List.setIfInBounds_toArray, List.set_cons_zero, List.set_cons_succ]
                refine wpAnyH_ready (rs := [14]) (by kernel_rfl) (by simp) ?_
                refine held_cons 14 (o := _) rfl (fun KC hKC => ?_) AllReadyH.nil
                go_simp
                refine hKC.out _ _ ?_ (fun hHeld => ?_)
                · first | exact CELLS.out _ (KB.out.mono fun _ _ e => e.elim) | exact CELLS.out _ ((KB.out.mono fun _ _ e => e.elim).trans (Kept.one_set wB ⟨W.heap.size, 0, none⟩ (.bool true)) (fun _ _ e => e))
                clear hKC KC
                try simp only [Act.put, List.setIfInBounds_toArray, List.set_cons_zero, List.set_cons_succ]
                refine wpAnyH_done (by kernel_rfl) (NoPanic.normal ?_) _
                gi_wp2_with fail
                have ks := Kept.one_set wB ⟨W.heap.size, 0, none⟩ (.bool true)
                have kF : Kept (fun b => b = W.heap.size) wl (wB.setCell ⟨W.heap.size, 0, none⟩ (.bool true)) := (KB.out.mono fun _ _ e => e.elim).trans ks (fun _ _ e => e)
                refine leaves_marks dl _ (List.nodup_cons.1 (List.nodup_cons.1 (List.nodup_cons.1 (List.nodup_cons.1 O.out.1.nodup).2).2).2).2 (fun d hd => ?_) (fun W' kd' => ?_)
                · exact (kF.block d (Array.getElem?_eq_some_iff.1 (O.out.1.marks d hd)).1 (fun e => by have := RBX.out.2.2 d (by simp [hd]); omega)).trans (O.out.1.marks d hd)
                · have hb := ((RBX.out.1.kept KB.out (fun e => e)).set (.bool true)).kept kd' (fun e => by have := RBX.out.2.2 _ (List.mem_cons_of_mem _ (List.mem_cons_of_mem _ (List.mem_cons_of_mem _ (List.mem_cons_of_mem _ e)))); omega)
                  refine ⟨_, results_box rfl Try.underlying4 rfl rfl hb, rfl, ?_⟩
                  exact (RBX.out.2.1.trans kF (fun b hb e => by omega)).trans kd' (fun b hb e => by have := RBX.out.2.2 _ (List.mem_cons_of_mem _ (List.mem_cons_of_mem _ (List.mem_cons_of_mem _ (List.mem_cons_of_mem _ e)))); omega)
end Go.Proofs.Ytalahbmahpgkeaa
