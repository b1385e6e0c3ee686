/- TableGone, walked. -/
import Derived.Test.YtalahbmahpgkeaaTblF
import Derived.Test.YtalahbmahpgkeaaGoneLaw
import Derived.Test.YtalahbmahpgkeaaGenE
import Derived.Test.YtalahbmahpgkeaaTblE
import Derived.Test.YtalahbmahpgkeaaGenD
import Derived.Test.YtalahbmahpgkeaaHeld
import Derived.Deep.CutBlock
import Derived.Deep.RegionHeld3
namespace Go.Proofs.Ytalahbmahpgkeaa
set_option linter.unusedVariables false
set_option linter.unusedSimpArgs false
open Go.RowKit Go.MapKept

theorem textG : Elem Try.prog 71 9 (.string ⟨#[]⟩) 1 16 := ⟨Try.underlying71, by kernel_rfl, rfl, by omega⟩
/-- The keys that were told, in a row. -/
def KeysIn (kb : Nat) (pre : List En) (U : Nat → Prop) (W : World) : Prop := Coll kb 9 1 pre.length (pre.map fun x => .string x.key) U W
theorem KeysIn.kept {kb : Nat} {pre : List En} {U : Nat → Prop} {W W' : World} (h : KeysIn kb pre U W) (k : Kept (fun b => ¬ U b) W W') : KeysIn kb pre U W' := Coll.kept h k
theorem gone_map (key value most : Int) : ∃ K V N : Nat, 1 ≤ K ∧ K ≤ 4 ∧ 1 ≤ V ∧ V ≤ 8 ∧ 1 ≤ N ∧ N ≤ 12 ∧ smallM 1 key value most = ⟨⟨#[109]⟩, 2, K, V, N⟩ := by
  obtain ⟨K, Y, V, X, h1, h2, h3, h4, e1, e2, e3, e4⟩ := small_nums 1 key value most
  refine ⟨1 + Y, 1 + V, 1 + X, by omega, by omega, by omega, by omega, by omega, by omega, ?_⟩
  have e1 : (bits .and .i64 1 255).tmod 3 = 1 := by decide
  unfold smallM
  rw [e1, e2, e3, e4]
  rw [if_neg (by decide)]
  simp only [TM.mk.injEq, true_and]
  refine ⟨rfl, by omega, by omega, by omega⟩
theorem gone_right (kd : Int) (hk : kd = 2 ∨ kd = 3) (K V N : Nat) (h1 : 1 ≤ K) (h2 : K ≤ 4) (h3 : 1 ≤ V) (h4 : V ≤ 8) (h5 : 1 ≤ N) (h6 : N ≤ 12) : (⟨⟨#[109]⟩, kd, K, V, N⟩ : TM).right = true := by
  show rightB ⟨#[109]⟩ kd (K : Int) (V : Int) (N : Int) = true
  exact (rightB_iff _ _ _ _ _).2 ⟨by decide, by omega, by omega, by omega, by omega, fun e => by omega, by omega, by omega, by omega, by omega⟩

set_option maxRecDepth 100000 in
set_option maxHeartbeats 4000000 in
theorem tableGone_any (is : Bool) (key value most : Int) (a : Option Addr) (n c : Nat) (ss : Nat → St7) (W : World) (hs : Steps7 W a n ss) (hn : n ≤ 9223372036854775807) :
    Calls Try.prog 12 #[.bool is, .int .i64 key, .int .i64 value, .int .i64 most, .slice a n c] W fun e w' => e = .returned (.bool true) ∧ Kept (fun _ => False) W w' := by
  obtain ⟨K, V, N, hK1, hK4, hV1, hV8, hN1, hN12, hM⟩ := gone_map key value most
  have hsa := small_any 1 key value most
  rw [hM] at hsa
  have hR := gone_right (if is then 3 else 2) (by cases is; exact .inl rfl; exact .inr rfl) K V N hK1 hK4 hV1 hV8 hN1 hN12
  generalize hkd : (if is then (3 : Int) else 2) = kd at hR
  have HR := Lib.hid hR
  have HSA := Lib.hid hsa
  have HS := Lib.hid hs
  clear hsa hM hR hs
  simp only [TM.v] at HSA
  have FK := Lib.hid (fun (s : ByteArray) (hs : s.size ≤ 9223372036854775807) w => fit_any s K hs (by omega) w)
  have FV := Lib.hid (fun (s : ByteArray) (hs : s.size ≤ 9223372036854775807) w => fit_any s V hs (by omega) w)
  cases is
  case' false =>
    have HKD := Lib.hid (show kd = 2 ∨ kd = 3 from .inl hkd.symm)
    have HKQ := Lib.hid (show kd = 2 from hkd.symm)
    clear hkd
    refine callsIn_WR (ro := none) (n := 0).1 (callsIn_of_wp_marks Try.func12 rfl trivial ?_ rfl)
    simp only [Try.ntmps12, List.size_toArray, List.length_cons, List.length_nil, Nat.reduceAdd, Nat.reduceSub, Array.replicate_succ, Array.replicate_zero, List.push_toArray, List.append_toArray, List.nil_append, List.cons_append]
    gi_wp2_with fail
    refine callsIn_WR.2 ((shown_any W).mono ?_)
    rintro e w1 ⟨rfl, k1⟩
    have K1 := Lib.hid k1
    clear k1
    gi_wp2_with fail
    refine callsIn_WR.2 ((HSA.out w1).mono ?_)
    rintro e w2 ⟨rfl, k2⟩
    have K2 := Lib.hid (K1.out.trans k2 (fun _ _ e => e))
    clear k2
    gi_wp2_with fail
    generalize hw3 : w2.alloc (.cells #[.string ⟨#[109]⟩, .int .i64 2, .int .i64 (K : Int), .int .i64 (V : Int), .int .i64 (N : Int)] 23) = W0
    have HB := Lib.hid (show MBox W0 w2.heap.size ⟨⟨#[109]⟩, kd, K, V, N⟩ from by rw [← hw3, HKQ.out]; exact MBox.new w2 ⟨⟨#[109]⟩, 2, K, V, N⟩ 23)
    have NEW := Lib.hid (show Calls Try.prog 14 #[.agg #[.string ⟨#[109]⟩, .int .i64 2, .int .i64 (K : Int), .int .i64 (V : Int), .int .i64 (N : Int)]] W0 _ from by have h := one_new HR.out W0; have e : TM.v ⟨⟨#[109]⟩, kd, K, V, N⟩ = .agg #[.string ⟨#[109]⟩, .int .i64 2, .int .i64 (K : Int), .int .i64 (V : Int), .int .i64 (N : Int)] := (by rw [HKQ.out]; rfl); rw [e] at h; exact h)
    have K3 := Lib.hid (show Kept (fun _ => False) W W0 from K2.out.trans (by rw [← hw3]; exact Kept.one_alloc w2 _) (fun _ _ e => e))
    clear hw3
    generalize hq : w2.heap.size = q at *
    clear hq K1 K2
  case' true =>
    have HKD := Lib.hid (show kd = 2 ∨ kd = 3 from .inr hkd.symm)
    have HKQ := Lib.hid (show kd = 3 from hkd.symm)
    clear hkd
    refine callsIn_WR (ro := none) (n := 0).1 (callsIn_of_wp_marks Try.func12 rfl trivial ?_ rfl)
    simp only [Try.ntmps12, List.size_toArray, List.length_cons, List.length_nil, Nat.reduceAdd, Nat.reduceSub, Array.replicate_succ, Array.replicate_zero, List.push_toArray, List.append_toArray, List.nil_append, List.cons_append]
    gi_wp2_with fail
    refine callsIn_WR.2 ((shown_any W).mono ?_)
    rintro e w1 ⟨rfl, k1⟩
    have K1 := Lib.hid k1
    clear k1
    gi_wp2_with fail
    refine callsIn_WR.2 ((HSA.out w1).mono ?_)
    rintro e w2 ⟨rfl, k2⟩
    have K2 := Lib.hid (K1.out.trans k2 (fun _ _ e => e))
    clear k2
    gi_wp2_with fail
    generalize hw3 : w2.alloc (.cells #[.string ⟨#[109]⟩, .int .i64 3, .int .i64 (K : Int), .int .i64 (V : Int), .int .i64 (N : Int)] 23) = W0
    have HB := Lib.hid (show MBox W0 w2.heap.size ⟨⟨#[109]⟩, kd, K, V, N⟩ from by rw [← hw3, HKQ.out]; exact MBox.new w2 ⟨⟨#[109]⟩, 3, K, V, N⟩ 23)
    have NEW := Lib.hid (show Calls Try.prog 14 #[.agg #[.string ⟨#[109]⟩, .int .i64 3, .int .i64 (K : Int), .int .i64 (V : Int), .int .i64 (N : Int)]] W0 _ from by have h := one_new HR.out W0; have e : TM.v ⟨⟨#[109]⟩, kd, K, V, N⟩ = .agg #[.string ⟨#[109]⟩, .int .i64 3, .int .i64 (K : Int), .int .i64 (V : Int), .int .i64 (N : Int)] := (by rw [HKQ.out]; rfl); rw [e] at h; exact h)
    have K3 := Lib.hid (show Kept (fun _ => False) W W0 from K2.out.trans (by rw [← hw3]; exact Kept.one_alloc w2 _) (fun _ _ e => e))
    clear hw3
    generalize hq : w2.heap.size = q at *
    clear hq K1 K2
  all_goals
    refine callsIn_WR.2 (NEW.out.mono ?_)
    rintro e w4 ⟨bt, rfl, hs⟩
    rw [show newP ⟨⟨#[109]⟩, kd, K, V, N⟩ = [] from by unfold newP; rw [if_neg (by show ¬ kd = 1; have := HKD.out; omega)]] at hs
    have ONE := Lib.hid hs
    clear hs NEW
    gi_wp2_with fail
    gi_loopw [15] (fun i wr => ∃ (k : Nat) (P : List Pr), k ≤ n ∧ k ≤ 20 ∧ i = .int .i64 k ∧ One W0 ⟨⟨#[109]⟩, kd, K, V, N⟩ bt P wr) (fun i _ => n - (intOf i).toNat)
    case atStart => exact ⟨0, [], Nat.zero_le _, by omega, rfl, ONE.out⟩
    case round =>
      obtain ⟨k, P, hk, hk20, rfl, hs⟩ := hrel
      clear ONE
      have hb := HB.out.kept hs.2 (fun e => e)
      have c2 : wr.cell? ⟨q, 2, none⟩ = some (.int .i64 (K : Int)) := hb.c2
      have c3 : wr.cell? ⟨q, 3, none⟩ = some (.int .i64 (V : Int)) := hb.c3
      have c4 : wr.cell? ⟨q, 4, none⟩ = some (.int .i64 (N : Int)) := hb.c4
      have ONE := Lib.hid hs
      have hqb := hb.row.lt
      clear hb hs
      by_cases hlt : k < n ∧ k < 20
      · obtain ⟨hlt, h20⟩ := hlt
        obtain ⟨b, o, rfl, hbW, hst⟩ := HS.out k hlt
        have hst2 := hst.kept hbW (K3.out.trans ONE.out.2 (fun _ _ e => e)) (fun e => e)
        have CELLS := Lib.hid (show ∀ w', Kept (fun _ => False) W0 w' → w'.cell? ⟨q, 2, none⟩ = some (.int .i64 (K : Int)) ∧ w'.cell? ⟨q, 3, none⟩ = some (.int .i64 (V : Int)) ∧ w'.cell? ⟨b, o + k * 7 + 1, none⟩ = some (.string (ss k).k) ∧ w'.cell? ⟨b, o + k * 7 + 2, none⟩ = some (.string (ss k).v) from
          fun w' kk => ⟨(HB.out.kept kk (fun e => e)).c2, (HB.out.kept kk (fun e => e)).c3, (hst.kept hbW (K3.out.trans kk (fun _ _ e => e)) (fun e => e)).c1, (hst.kept hbW (K3.out.trans kk (fun _ _ e => e)) (fun e => e)).c2⟩)
        have s1 := hst2.c1
        have s2 := hst2.c2
        have hsk := hst2.sk
        have hsv := hst2.sv
        have hbr : b < wr.heap.size := Nat.lt_of_lt_of_le hbW (K3.out.trans ONE.out.2 (fun _ _ e => e)).size
        generalize (ss k).k = ky at s1 hsk CELLS
        generalize (ss k).v = vl at s2 hsv CELLS
        clear hst hst2 c4
        gi_wp2_with fail
        have hcv := conv_row
        have FKS := Lib.hid (fit_keep (q := q) (b := b) (o := o + k * 7) (K := K) (V := V) (ky := ky) (vl := vl) (FK.out ky hsk) hqb hbr c2 c3 s1 s2)
        have FVS := Lib.hid (fit_keep (q := q) (b := b) (o := o + k * 7) (K := K) (V := V) (ky := ky) (vl := vl) (FV.out vl hsv) hqb hbr c2 c3 s1 s2)
        refine wpW_region_held (S := fun w' => w'.cell? ⟨q, 2, none⟩ = some (.int .i64 (K : Int)) ∧ w'.cell? ⟨q, 3, none⟩ = some (.int .i64 (V : Int)) ∧ w'.cell? ⟨b, o + k * 7 + 1, none⟩ = some (.string ky) ∧ w'.cell? ⟨b, o + k * 7 + 2, none⟩ = some (.string vl)) (by kernel_rfl) (by kernel_rfl) (by rintro ⟨_, _, h⟩; first | exact h.elim | (obtain ⟨h1, -⟩ := h; cases h1)) ?_ (fun hHeld => ?_)
        · go_keep
        refine held_take 0 (oi := _) (v := ?_) rfl (by kernel_rfl) (by kernel_rfl) (by kernel_rfl) (fun _ _ _ h => h) (by rfl) (fun w hSw => ?_) (by assumption) ?_
        rotate_left
        · (try dsimp only at hSw); go_simp; try with_reducible rfl
        try simp only [Act.put, List.setIfInBounds_toArray, List.set_cons_zero, List.set_cons_succ]
        refine held_take 1 (oi := _) (v := ?_) rfl (by kernel_rfl) (by kernel_rfl) (by kernel_rfl) (fun _ _ _ h => h) (by rfl) (fun w hSw => ?_) (by assumption) ?_
        rotate_left
        · (try dsimp only at hSw); go_simp; try with_reducible rfl
        try simp only [Act.put, List.setIfInBounds_toArray, List.set_cons_zero, List.set_cons_succ]
        refine held_take 2 (oi := _) (v := ?_) rfl (by kernel_rfl) (by kernel_rfl) (by kernel_rfl) (fun _ _ _ h => h) (by rfl) (fun w hSw => ?_) (by assumption) ?_
        rotate_left
        · (try dsimp only at hSw); go_simp; try with_reducible rfl
        try simp only [Act.put, List.setIfInBounds_toArray, List.set_cons_zero, List.set_cons_succ]
        refine held_take 3 (oi := _) (v := ?_) rfl (by kernel_rfl) (by kernel_rfl) (by kernel_rfl) (fun _ _ _ h => h) (by rfl) (fun w hSw => ?_) (by assumption) ?_
        rotate_left
        · (try dsimp only at hSw); go_simp; try with_reducible rfl
        try simp only [Act.put, List.setIfInBounds_toArray, List.set_cons_zero, List.set_cons_succ]
        refine held_take 4 (oi := _) (v := ?_) rfl (by kernel_rfl) (by kernel_rfl) (by kernel_rfl) (fun _ _ _ h => h) (by rfl) (fun w hSw => ?_) (by assumption) ?_
        rotate_left
        · (try dsimp only at hSw); go_simp; try with_reducible rfl
        try simp only [Act.put, List.setIfInBounds_toArray, List.set_cons_zero, List.set_cons_succ]
        refine held_take 5 (oi := _) (v := ?_) rfl (by kernel_rfl) (by kernel_rfl) (by kernel_rfl) (fun _ _ _ h => h) (by rfl) (fun w hSw => ?_) (by assumption) ?_
        rotate_left
        · (try dsimp only at hSw); go_simp; try with_reducible rfl
        try simp only [Act.put, List.setIfInBounds_toArray, List.set_cons_zero, List.set_cons_succ]
        refine held_take 6 (oi := _) (v := ?_) rfl (by kernel_rfl) (by kernel_rfl) (by kernel_rfl) (fun _ _ _ h => h) (by rfl) (fun w hSw => ?_) (by assumption) ?_
        rotate_left
        · (try dsimp only at hSw); go_simp; try with_reducible rfl
        try simp only [Act.put, List.setIfInBounds_toArray, List.set_cons_zero, List.set_cons_succ]
        refine held_take 7 (oi := _) (v := ?_) rfl (by kernel_rfl) (by kernel_rfl) (by kernel_rfl) (fun _ _ _ h => h) (by rfl) (fun w hSw => ?_) (by assumption) ?_
        rotate_left
        · (try dsimp only at hSw); go_simp; try with_reducible rfl
        try simp only [Act.put, List.setIfInBounds_toArray, List.set_cons_zero, List.set_cons_succ]
        refine held_take 10 (oi := _) (v := ?_) rfl (by kernel_rfl) (by kernel_rfl) (by kernel_rfl) (fun _ _ _ h => h) (by rfl) (fun w hSw => ?_) (by assumption) ?_
        rotate_left
        · (try dsimp only at hSw); go_simp; try with_reducible rfl
        try simp only [Act.put, List.setIfInBounds_toArray, List.set_cons_zero, List.set_cons_succ]
        refine held_take 11 (oi := _) (v := ?_) rfl (by kernel_rfl) (by kernel_rfl) (by kernel_rfl) (fun _ _ _ h => h) (by rfl) (fun w hSw => ?_) (by assumption) ?_
        rotate_left
        · (try dsimp only at hSw); go_simp; try with_reducible rfl
        try simp only [Act.put, List.setIfInBounds_toArray, List.set_cons_zero, List.set_cons_succ]
        refine held_take 12 (oi := _) (v := ?_) rfl (by kernel_rfl) (by kernel_rfl) (by kernel_rfl) (fun _ _ _ h => h) (by rfl) (fun w hSw => ?_) (by assumption) ?_
        rotate_left
        · (try dsimp only at hSw); go_simp; try with_reducible rfl
        try simp only [Act.put, List.setIfInBounds_toArray, List.set_cons_zero, List.set_cons_succ]
        refine held_take 13 (oi := _) (v := ?_) rfl (by kernel_rfl) (by kernel_rfl) (by kernel_rfl) (fun _ _ _ h => h) (by rfl) (fun w hSw => ?_) (by assumption) ?_
        rotate_left
        · (try dsimp only at hSw); go_simp; try with_reducible rfl
        try simp only [Act.put, List.setIfInBounds_toArray, List.set_cons_zero, List.set_cons_succ]
        refine held_take 14 (oi := _) (v := ?_) rfl (by kernel_rfl) (by kernel_rfl) (by kernel_rfl) (fun _ _ _ h => h) (by rfl) (fun w hSw => ?_) (by assumption) ?_
        rotate_left
        · (try dsimp only at hSw); go_simp; try with_reducible rfl
        try simp only [Act.put, List.setIfInBounds_toArray, List.set_cons_zero, List.set_cons_succ]
        refine held_take 15 (oi := _) (v := ?_) rfl (by kernel_rfl) (by kernel_rfl) (by kernel_rfl) (fun _ _ _ h => h) (by rfl) (fun w hSw => ?_) (by assumption) ?_
        rotate_left
        · (try dsimp only at hSw); go_simp; try with_reducible rfl
        try simp only [Act.put, List.setIfInBounds_toArray, List.set_cons_zero, List.set_cons_succ]
        refine held_take 16 (oi := _) (v := ?_) rfl (by kernel_rfl) (by kernel_rfl) (by kernel_rfl) (fun _ _ _ h => h) (by rfl) (fun w hSw => ?_) (by assumption) ?_
        rotate_left
        · (try dsimp only at hSw); go_simp; try with_reducible rfl
        try simp only [Act.put, List.setIfInBounds_toArray, List.set_cons_zero, List.set_cons_succ]
        refine wpAnyH_ready (rs := [8]) (by kernel_rfl) (by simp) ?_
        refine held_cons 8 (o := _) rfl (fun KC hKC => ?_) AllReadyH.nil
        go_simp
        with_reducible refine Calls.mono (FKS.out _ ?_) ?_
        · exact (Kept.refl _ _).twin ⟨rfl, rfl, rfl, rfl⟩
        rintro e wA ⟨rfl, ⟨cwA1, cwA2, cwA3, cwA4⟩, kwA, kwA2⟩
        have KwA := Lib.hid kwA
        have KwA2 := Lib.hid kwA2
        clear kwA kwA2
        dsimp only
        refine hKC.out _ _ ?_ (fun hHeld => ?_)
        · go_keep
        clear hKC KC
        try simp only [Act.put, List.setIfInBounds_toArray, List.set_cons_zero, List.set_cons_succ]
        refine wpAnyH_ready (rs := [9, 17]) (by kernel_rfl) (by simp) ?_
        refine held_cons 9 (o := _) rfl (fun KC hKC => ?_) (held_cons 17 (o := _) rfl (fun KC hKC => ?_) AllReadyH.nil)
        ·
          go_simp
          refine hKC.out _ _ ?_ (fun hHeld => ?_)
          · go_keep
          clear hKC KC
          try simp only [Act.put, List.setIfInBounds_toArray, List.set_cons_zero, List.set_cons_succ]
          refine wpAnyH_ready (rs := [17]) (by kernel_rfl) (by simp) ?_
          refine held_cons 17 (o := _) rfl (fun KC hKC => ?_) AllReadyH.nil
          go_simp
          with_reducible refine Calls.mono (FVS.out _ ?_) ?_
          · first | exact KwA.out.twin ⟨rfl, rfl, rfl, rfl⟩ | exact (KwA.out.alloc _).twin ⟨rfl, rfl, rfl, rfl⟩
          rintro e wB ⟨rfl, ⟨cwB1, cwB2, cwB3, cwB4⟩, kwB, kwB2⟩
          have KwB := Lib.hid kwB
          have KwB2 := Lib.hid kwB2
          clear kwB kwB2
          dsimp only
          refine hKC.out _ _ ?_ (fun hHeld => ?_)
          · go_keep
          clear hKC KC
          try simp only [Act.put, List.setIfInBounds_toArray, List.set_cons_zero, List.set_cons_succ]
          refine wpAnyH_ready (rs := [18]) (by kernel_rfl) (by simp) ?_
          refine held_cons 18 (o := _) rfl (fun KC hKC => ?_) AllReadyH.nil
          go_simp
          refine hKC.out _ _ ?_ (fun hHeld => ?_)
          · go_keep
          clear hKC KC
          try simp only [Act.put, List.setIfInBounds_toArray, List.set_cons_zero, List.set_cons_succ]
          refine wpAnyH_ready (rs := [19]) (by kernel_rfl) (by simp) ?_
          refine held_cons 19 (o := _) rfl (fun KC hKC => ?_) AllReadyH.nil
          go_simp
          with_reducible refine Calls.mono (one_upd (k := fitB ky K) (v := fitB vl V) ONE.out ?_ ?_ ?_ ?_) ?_
          · first | exact (KwB.out.alloc _).twin ⟨rfl, rfl, rfl, rfl⟩ | exact ((KwB.out.alloc _).alloc _).twin ⟨rfl, rfl, rfl, rfl⟩
          · first | exact BytesAt.kept (BytesAt.kept bytes_row_d KwB2.out (fun _ _ _ e => e)) (((Kept.refl (fun _ => False) wB).alloc _).twin ⟨rfl, rfl, rfl, rfl⟩) (fun _ _ _ e => e) | exact (bytes_row (w := wB) (Twin.refl _) rfl).kept (((Kept.refl (fun _ => False) _).alloc _).twin ⟨rfl, rfl, rfl, rfl⟩) (fun _ _ _ e => e) | exact bytes_row (w := wB.alloc _) ⟨rfl, rfl, rfl, rfl⟩ (by simp)
          · first | exact bytes_row (w := wB) ⟨rfl, rfl, rfl, rfl⟩ rfl | exact bytes_row (w := wB.alloc _) ⟨rfl, rfl, rfl, rfl⟩ (by simp) | exact (bytes_row (w := wB) (Twin.refl _) rfl).kept (((Kept.refl (fun _ => False) _).alloc _).twin ⟨rfl, rfl, rfl, rfl⟩) (fun _ _ _ e => e)
          · intro b o e; cases e; have := KwB.out.size; omega
          rintro e w7 ⟨rfl, h7⟩
          obtain ⟨d1, d2, d3, d4⟩ := CELLS.out w7 h7.2
          have H7 := Lib.hid h7
          clear h7
          dsimp only
          refine hKC.out _ _ ?_ (fun hHeld => ?_)
          · go_keep
          clear hKC KC
          try simp only [Act.put, List.setIfInBounds_toArray, List.set_cons_zero, List.set_cons_succ]
          refine wpAnyH_done (by kernel_rfl) (NoPanic.normal ?_) _
          clear d1 d2 d3 d4
          gi_wp2_with fail
          go_roundw
          case rel => exact ⟨k + 1, _, by omega, by omega, by go_num, H7.out⟩
          case measure => simp [intOf]; omega
        ·
          go_simp
          with_reducible refine Calls.mono (FVS.out _ ?_) ?_
          · first | exact KwA.out.twin ⟨rfl, rfl, rfl, rfl⟩ | exact (KwA.out.alloc _).twin ⟨rfl, rfl, rfl, rfl⟩
          rintro e wB ⟨rfl, ⟨cwB1, cwB2, cwB3, cwB4⟩, kwB, kwB2⟩
          have KwB := Lib.hid kwB
          have KwB2 := Lib.hid kwB2
          clear kwB kwB2
          dsimp only
          refine hKC.out _ _ ?_ (fun hHeld => ?_)
          · go_keep
          clear hKC KC
          try simp only [Act.put, List.setIfInBounds_toArray, List.set_cons_zero, List.set_cons_succ]
          refine wpAnyH_ready (rs := [9, 18]) (by kernel_rfl) (by simp) ?_
          refine held_cons 9 (o := _) rfl (fun KC hKC => ?_) (held_cons 18 (o := _) rfl (fun KC hKC => ?_) AllReadyH.nil)
          ·
            go_simp
            refine hKC.out _ _ ?_ (fun hHeld => ?_)
            · go_keep
            clear hKC KC
            try simp only [Act.put, List.setIfInBounds_toArray, List.set_cons_zero, List.set_cons_succ]
            refine wpAnyH_ready (rs := [18]) (by kernel_rfl) (by simp) ?_
            refine held_cons 18 (o := _) rfl (fun KC hKC => ?_) AllReadyH.nil
            go_simp
            refine hKC.out _ _ ?_ (fun hHeld => ?_)
            · go_keep
            clear hKC KC
            try simp only [Act.put, List.setIfInBounds_toArray, List.set_cons_zero, List.set_cons_succ]
            refine wpAnyH_ready (rs := [19]) (by kernel_rfl) (by simp) ?_
            refine held_cons 19 (o := _) rfl (fun KC hKC => ?_) AllReadyH.nil
            go_simp
            with_reducible refine Calls.mono (one_upd (k := fitB ky K) (v := fitB vl V) ONE.out ?_ ?_ ?_ ?_) ?_
            · first | exact (KwB.out.alloc _).twin ⟨rfl, rfl, rfl, rfl⟩ | exact ((KwB.out.alloc _).alloc _).twin ⟨rfl, rfl, rfl, rfl⟩
            · first | exact BytesAt.kept (BytesAt.kept bytes_row_d KwB2.out (fun _ _ _ e => e)) (((Kept.refl (fun _ => False) wB).alloc _).twin ⟨rfl, rfl, rfl, rfl⟩) (fun _ _ _ e => e) | exact (bytes_row (w := wB) (Twin.refl _) rfl).kept (((Kept.refl (fun _ => False) _).alloc _).twin ⟨rfl, rfl, rfl, rfl⟩) (fun _ _ _ e => e) | exact bytes_row (w := wB.alloc _) ⟨rfl, rfl, rfl, rfl⟩ (by simp)
            · first | exact bytes_row (w := wB) ⟨rfl, rfl, rfl, rfl⟩ rfl | exact bytes_row (w := wB.alloc _) ⟨rfl, rfl, rfl, rfl⟩ (by simp) | exact (bytes_row (w := wB) (Twin.refl _) rfl).kept (((Kept.refl (fun _ => False) _).alloc _).twin ⟨rfl, rfl, rfl, rfl⟩) (fun _ _ _ e => e)
            · intro b o e; cases e; have := KwB.out.size; omega
            rintro e w7 ⟨rfl, h7⟩
            obtain ⟨d1, d2, d3, d4⟩ := CELLS.out w7 h7.2
            have H7 := Lib.hid h7
            clear h7
            dsimp only
            refine hKC.out _ _ ?_ (fun hHeld => ?_)
            · go_keep
            clear hKC KC
            try simp only [Act.put, List.setIfInBounds_toArray, List.set_cons_zero, List.set_cons_succ]
            refine wpAnyH_done (by kernel_rfl) (NoPanic.normal ?_) _
            clear d1 d2 d3 d4
            gi_wp2_with fail
            go_roundw
            case rel => exact ⟨k + 1, _, by omega, by omega, by go_num, H7.out⟩
            case measure => simp [intOf]; omega
          ·
            go_simp
            refine hKC.out _ _ ?_ (fun hHeld => ?_)
            · go_keep
            clear hKC KC
            try simp only [Act.put, List.setIfInBounds_toArray, List.set_cons_zero, List.set_cons_succ]
            refine wpAnyH_ready (rs := [9]) (by kernel_rfl) (by simp) ?_
            refine held_cons 9 (o := _) rfl (fun KC hKC => ?_) AllReadyH.nil
            go_simp
            refine hKC.out _ _ ?_ (fun hHeld => ?_)
            · go_keep
            clear hKC KC
            try simp only [Act.put, List.setIfInBounds_toArray, List.set_cons_zero, List.set_cons_succ]
            refine wpAnyH_ready (rs := [19]) (by kernel_rfl) (by simp) ?_
            refine held_cons 19 (o := _) rfl (fun KC hKC => ?_) AllReadyH.nil
            go_simp
            with_reducible refine Calls.mono (one_upd (k := fitB ky K) (v := fitB vl V) ONE.out ?_ ?_ ?_ ?_) ?_
            · first | exact (KwB.out.alloc _).twin ⟨rfl, rfl, rfl, rfl⟩ | exact ((KwB.out.alloc _).alloc _).twin ⟨rfl, rfl, rfl, rfl⟩
            · first | exact BytesAt.kept (BytesAt.kept bytes_row_d KwB2.out (fun _ _ _ e => e)) (((Kept.refl (fun _ => False) wB).alloc _).twin ⟨rfl, rfl, rfl, rfl⟩) (fun _ _ _ e => e) | exact (bytes_row (w := wB) (Twin.refl _) rfl).kept (((Kept.refl (fun _ => False) _).alloc _).twin ⟨rfl, rfl, rfl, rfl⟩) (fun _ _ _ e => e) | exact bytes_row (w := wB.alloc _) ⟨rfl, rfl, rfl, rfl⟩ (by simp)
            · first | exact bytes_row (w := wB) ⟨rfl, rfl, rfl, rfl⟩ rfl | exact bytes_row (w := wB.alloc _) ⟨rfl, rfl, rfl, rfl⟩ (by simp) | exact (bytes_row (w := wB) (Twin.refl _) rfl).kept (((Kept.refl (fun _ => False) _).alloc _).twin ⟨rfl, rfl, rfl, rfl⟩) (fun _ _ _ e => e)
            · intro b o e; cases e; have := KwB.out.size; omega
            rintro e w7 ⟨rfl, h7⟩
            obtain ⟨d1, d2, d3, d4⟩ := CELLS.out w7 h7.2
            have H7 := Lib.hid h7
            clear h7
            dsimp only
            refine hKC.out _ _ ?_ (fun hHeld => ?_)
            · go_keep
            clear hKC KC
            try simp only [Act.put, List.setIfInBounds_toArray, List.set_cons_zero, List.set_cons_succ]
            refine wpAnyH_done (by kernel_rfl) (NoPanic.normal ?_) _
            clear d1 d2 d3 d4
            gi_wp2_with fail
            go_roundw
            case rel => exact ⟨k + 1, _, by omega, by omega, by go_num, H7.out⟩
            case measure => simp [intOf]; omega
      · have hsp : (k < n ∧ k = 20) ∨ ¬ k < n := by omega
        have SES := Lib.hid ((show Ses ⟨⟨#[109]⟩, kd, K, V, N⟩ bt P (fun b => W0.heap.size ≤ b ∧ b < wr.heap.size) wr from ONE.out.1.bound))
        clear hlt c2 c3 c4
        obtain ⟨iv, E, F, hT, hE, hF⟩ := SES.out
        have hsmall : E.length ≤ 12 := by have h := hT.len; have h2 : ((⟨⟨#[109]⟩, kd, K, V, N⟩ : TM).mx) = (N : Int) := rfl; omega
        have HT := Lib.hid (And.intro hT (And.intro hE hF))
        have hOL : (ordT ⟨⟨#[109]⟩, kd, K, V, N⟩ E).length = E.length := (ordT_perm _ E).length_eq
        have HOL := Lib.hid hOL
        clear hT hE hF SES hOL
        rcases hsp with ⟨hlt, rfl⟩ | hlt
        all_goals
          gi_wp2_with fail
          obtain ⟨W5, hW5⟩ : ∃ W5, W5 = wr.alloc (.cells #[.slice none 0 0] 71) := ⟨_, rfl⟩
          have k5 : Kept (fun _ => False) wr W5 := by rw [hW5]; exact Kept.one_alloc wr _
          have kb5 : Box W5 wr.heap.size (.slice none 0 0) := by rw [hW5]; exact Box.new wr _ _
          obtain ⟨kb, hkb⟩ : ∃ kb, wr.heap.size = kb := ⟨_, rfl⟩
          rw [← hW5, hkb]
          rw [hkb] at kb5
          have HKB := Lib.hid hkb
          clear hW5 hkb
          refine callsIn_WR.2 ((all_any bt W5).mono ?_)
          rintro e W6 ⟨bx, rfl, hbx, k6, g6⟩
          have hnf := run_eq_nilFunc (P := Try.prog) W6 (.func 38) #[] #[.pointer (some ⟨bx, 0, none⟩)] Try.underlying48
          have kb6 := kb5.kept k6 (fun e => e)
          have hT6 := HT.out.1.kept (k5.trans k6 (fun _ _ e => e)) (fun _ _ e => e)
          have hRd : AllRd bx bt ⟨⟨#[109]⟩, kd, K, V, N⟩ iv E F W6 := ⟨hbx.cell, hbx.lt, hT6.allR⟩
          have hTl : ∀ b, Tfp bt E F b → b < kb := fun b hb => by rw [← HKB.out]; exact HT.out.1.lt b hb
          have hDl : ∀ b, AllD bt E F b → b < kb := fun b hb => hTl b (hb.imp id (fun h => h.imp id (fun ⟨x, hx, e⟩ => ⟨x, hx, .inl e⟩)))
          have hkbl := kb6.lt
          have hkb5 := kb5.lt
          have H6 := Lib.hid (And.intro hRd (And.intro hTl (And.intro hDl (And.intro kb6 (And.intro hT6 (And.intro k5 (And.intro k6 g6)))))))
          clear hRd hTl hDl kb5 kb6 hT6 hbx k5 k6 g6
          gi_wp2_with fail
          obtain ⟨hRd, hTl, hDl, kb6, hT6, k5, k6, g6⟩ := H6.out
          refine wpW_rangeG (all1_any bx bt ⟨⟨#[109]⟩, kd, K, V, N⟩ iv E F) rfl all_enters (fun _ => by rfl) (fun (pre : List En) U W' => KeysIn kb pre U W') (fun _ _ _ => False) (fun b => b = kb)
            (fun (pre : List En) U W W' h k => KeysIn.kept h k) (fun _ _ _ _ h _ => h) ?_ ?_ ?_ hRd (fun W W' h k => h.kept k (fun e => e (.inl rfl)) (fun b hb e => e (.inr hb))) (Coll.start kb6 rfl) ?_ ?_ (fun _ _ _ _ h => h.elim)
          · rintro b rfl (h | h)
            · omega
            · have := hDl _ h
              omega
          · rintro b (rfl | h)
            · exact hRd.2.1
            · exact hRd.2.2.dlt b h
          · rintro b rfl
            exact hkbl
          · intro l pre x rest U' W7 hitems hi hkw hlt' hD' hRd' hl hlD hlW hlw hUU
            have HLT := Lib.hid hlt'
            have hpl : pre.length < 12 := by
              have h1 := congrArg List.length hitems
              rw [HOL.out] at h1
              simp at h1
              omega
            clear hlt' hD' hRd' hUU hkw hitems hRd hTl hDl kb6 hT6 k5 k6 g6 hnf
            simp only [encE, List.zip_toArray, List.zip_cons_cons, List.zip_nil_left, List.foldl_toArray', List.foldl_cons, List.foldl_nil, List.setIfInBounds_toArray, List.set_cons_succ, List.set_cons_zero]
            gi_wp2_with (rw [Oper.semAt_eq _ _ _ (fun c h => by cases h)]; go_simp; try go_bits)
            refine ⟨trivial, ?_⟩
            intro W8 kl zl
            have ZL := Lib.hid zl
            clear zl
            have hi2 : KeysIn kb pre U' W8 := hi.kept (kl.mono fun b _ e h => by subst e; exact hl h)
            obtain ⟨o5, ho, hrow, hoo, hU⟩ := hi2
            have hco := ho.cell
            have hfo := ho.frozen
            have hrow2 := ownsRow_kept hrow (Kept.one_alloc W8 (.cells #[.string x.key] 9)) (fun _ _ e => e)
            clear hi
            gi_wp2_with (first
              | (gi_at_builtin; refine wpListW_append_mine rfl _ _ textG rfl rfl hrow2 (some ⟨W8.heap.size, 0, none⟩) 1 1 [.string x.key] rfl rfl (holds_block (heap_alloc_new W8 _)) (by simp [Value.oneCell']) (by unfold maxLen; omega) (by omega) ?_
                 intro a' c' w' h2 h3 h4
                 have bo4 := (ho.alloc (.cells #[.string x.key] 9)).kept h3 (fun e => (hoo _ e).2 rfl)
                 have hco4 := bo4.cell
                 have hfo4 := bo4.frozen
                 go_frame)
              | (rw [Oper.semAt_eq _ _ _ (fun c h => by cases h)]; go_simp; try go_bits))
            obtain ⟨e1, e2, e3, e4, e5, -⟩ := coll_round kl hl HLT.out hlW ho hrow hoo hU (Kept.one_alloc W8 (.cells #[.string x.key] 9)) h2 h3 h4
            exact ⟨e1, _, e2, e3, e4, by unfold KeysIn; simpa using e5⟩
          · intro items dk U3 W7 hfull hi hkw hRd' hdk hdkn hdkU hUU hUn hUlt
            obtain ⟨o5, ho, hrow, hoo, hU⟩ := hi
            subst hfull
            have hP : kvs E = P := HT.out.2.1
            have hFp : ∀ b, Tfp bt E F b → W0.heap.size ≤ b ∧ b < kb := fun b hb => ⟨(HT.out.2.2 b hb).1, hTl b hb⟩
            have hs7 : Ses ⟨⟨#[109]⟩, kd, K, V, N⟩ bt P (fun b => W0.heap.size ≤ b ∧ b < kb) W7 := ⟨iv, E, F, hT6.kept hkw (fun b hb e => by have := hTl b hb; omega), hP, hFp⟩
            have hKs : ((ordT ⟨⟨#[109]⟩, kd, K, V, N⟩ E).map (·.key)).Perm (P.map (·.1)) := by
              rw [← hP]
              unfold kvs
              rw [List.map_map]
              exact (ordT_perm _ E).map _
            have hgt : ∀ b, o5.ownBlock = some b → kb ≤ b ∧ b ≠ kb ∧ b ≠ dk := fun b hb => ⟨(hUn b (hoo b hb).1).elim (fun e => by omega) (fun e => by omega), (hoo b hb).2, fun e => hdkU (by rw [← e]; exact (hoo b hb).1)⟩
            have kw7 : Kept (fun _ => False) W0 W7 := ((ONE.out.2.trans k5 (fun _ _ e => e)).trans k6 (fun _ _ e => e)).trans hkw (fun b hb e => by have := ONE.out.2.size; have := HKB.out; omega)
            obtain ⟨a5, c5, rfl, hg5, -, hnc5⟩ := own_form hrow
            obtain ⟨L, hL⟩ : ∃ L, (ordT ⟨⟨#[109]⟩, kd, K, V, N⟩ E).length = L := ⟨_, rfl⟩
            obtain ⟨Ks, hKs'⟩ : ∃ Ks, (ordT ⟨⟨#[109]⟩, kd, K, V, N⟩ E).map (·.key) = Ks := ⟨_, rfl⟩
            have hKl : Ks.length = L := by rw [← hKs', ← hL, List.length_map]
            have hL12 : L ≤ 12 := by rw [← hL, HOL.out]; exact hsmall
            have hrow' : W7.ownsRow 0 9 1 (.slice a5 L c5) L (Ks.map Value.string) := by
              have h := hrow
              rw [hL] at h
              rw [← hKs', List.map_map]
              exact h
            rw [hKs'] at hKs
            rw [hL] at ho hg5 hgt hnc5
            have HQ := Lib.hid (And.intro hs7 (And.intro hKs (And.intro hgt (And.intro kw7 (And.intro hrow' (And.intro hKl (And.intro ho hdk)))))))
            have hdkb : kb < dk := by omega
            have hkb0 : W0.heap.size ≤ kb := by have := ONE.out.2.size; have := HKB.out; omega
            have hco := ho.cell
            clear hs7 hKs hP hFp hgt kw7 hrow hrow' hRd' hRd hTl hDl kb6 hT6 k5 k6 g6 H6 hUU hUn hUlt hkw hoo hdkU hdkn hU ho hdk HT HOL HKB hKl hL hKs' hnf
            gi_wp2_with fail
            gi_loopw [18] (fun i w => ∃ k : Nat, k ≤ L ∧ i = .int .i64 k ∧ Ses ⟨⟨#[109]⟩, kd, K, V, N⟩ bt (leftK Ks P k) (fun b => W0.heap.size ≤ b ∧ b < kb) w ∧ Kept (fun b => W0.heap.size ≤ b ∧ b < kb) W7 w) (fun i _ => L - (intOf i).toNat)
            case atStart => exact ⟨0, Nat.zero_le _, rfl, by rw [leftK_zero]; exact HQ.out.1, .refl _ _⟩
            case round =>
              obtain ⟨j, hj, rfl, hs2, kq⟩ := hrel
              have hco2 : wr.cell? ⟨kb, 0, none⟩ = some (.slice a5 L c5) := (kq.cell (p := ⟨kb, 0, none⟩) HQ.out.2.2.2.2.2.2.1.lt (by simp)).trans hco
              by_cases hjl : j < L
              · have hjk : j < Ks.length := by rw [HQ.out.2.2.2.2.2.1]; exact hjl
                obtain ⟨rb, rfl⟩ := hg5 (by omega)
                have hrow2 := ownsRow_kept HQ.out.2.2.2.2.1 kq (fun b e h => by have := (HQ.out.2.2.1 b e).1; omega)
                have hcj : wr.cell? ⟨rb, j, none⟩ = some (.string Ks[j]) := own_cell hrow2 (by rw [List.getElem?_map, List.getElem?_eq_getElem hjk]; rfl)
                have GS := Lib.hid (gone_step (m := ⟨⟨#[109]⟩, kd, K, V, N⟩) HQ.out.2.1 HQ.out.1.nodup (by show ¬ kd = 1; have := HKD.out; omega) (fun p hp => (HQ.out.1.sizes p hp).1) hjk)
                have GL := Lib.hid (And.intro (leftK_len HQ.out.2.1 HQ.out.1.nodup j) (leftK_len HQ.out.2.1 HQ.out.1.nodup (j + 1)))
                obtain ⟨κ, hκ⟩ : ∃ κ, Ks[j] = κ := ⟨_, rfl⟩
                rw [hκ] at hcj GS
                obtain ⟨cc, w9, hcv, k9, b9, z9⟩ := bytes_made wr κ
                have B9 := Lib.hid b9
                have K9 := Lib.hid k9
                have S2 := Lib.hid hs2
                have KQ := Lib.hid kq
                clear b9 k9 z9 hs2 kq hrow2 hκ hjk
                gi_wp2_with fail
                refine callsIn_WR.2 ((ses_del S2.out K9.out B9.out).mono ?_)
                rintro e w10 ⟨rfl, hs10, k10⟩
                rw [GS.out.1]
                rw [GS.out.2.1] at hs10
                have S10 := Lib.hid hs10
                have K10 := Lib.hid k10
                have B10 := Lib.hid (B9.out.kept k10 (fun b o e h => by cases e; have := KQ.out.size; have := HQ.out.2.2.2.2.2.2.1.lt; omega))
                clear hs10 k10 hcv hcj
                gi_wp2_with fail
                refine callsIn_WR.2 ((ses_look S10.out (.refl _ _) B10.out).mono ?_)
                rintro e w11 ⟨x11, rfl, hs11, -, k11⟩
                rw [GS.out.2.2.1]
                rw [GS.out.2.2.2.1] at hs11
                have KK := Lib.hid (((KQ.out.trans K9.out (fun _ _ e => e.elim)).trans K10.out (fun _ _ e => e)).trans k11 (fun _ _ e => e))
                have S11 := Lib.hid hs11
                have B11 := Lib.hid (B10.out.kept k11 (fun b o e h => by cases e; have := KQ.out.size; have := HQ.out.2.2.2.2.2.2.1.lt; omega))
                have hco11 : w11.cell? ⟨kb, 0, none⟩ = some (.slice (some ⟨rb, 0, none⟩) L c5) := (KK.out.cell (p := ⟨kb, 0, none⟩) HQ.out.2.2.2.2.2.2.1.lt (by simp)).trans hco
                have LEN := Lib.hid (show ∀ W', Kept (fun _ => False) w11 W' → Calls Try.prog 17 #[.pointer (some ⟨bt, 0, none⟩)] W' fun e w' => e = .returned (.int .i64 ((L : Int) - 1 - j)) ∧ w'.cell? ⟨kb, 0, none⟩ = some (.slice (some ⟨rb, 0, none⟩) L c5) ∧ Kept (fun _ => False) w11 w' from by
                  intro W' kk
                  refine (ses_len (S11.out.keep kk)).mono ?_
                  rintro e w' ⟨rfl, k'⟩
                  have k2 := kk.trans k' (fun _ _ e => e)
                  refine ⟨?_, (k2.cell (p := ⟨kb, 0, none⟩) (Nat.lt_of_lt_of_le HQ.out.2.2.2.2.2.2.1.lt KK.out.size) (fun e => e)).trans hco11, k2⟩
                  rw [GL.out.2, HQ.out.2.2.2.2.2.1, show ((L - (j + 1) : Nat) : Int) = (L : Int) - 1 - j by omega])
                have DEL := Lib.hid (show ∀ W', Kept (fun _ => False) w11 W' → Calls Try.prog 23 #[.pointer (some ⟨bt, 0, none⟩), .slice (some ⟨wr.heap.size, 0, none⟩) κ.size cc] W' fun e w' => e = .returned (.int .i64 3) ∧ w'.cell? ⟨kb, 0, none⟩ = some (.slice (some ⟨rb, 0, none⟩) L c5) ∧ Ses ⟨⟨#[109]⟩, kd, K, V, N⟩ bt (leftK Ks P (j + 1)) (fun b => W0.heap.size ≤ b ∧ b < kb) w' ∧ Kept (fun b => W0.heap.size ≤ b ∧ b < kb) w11 w' from by
                  intro W' kk
                  refine (ses_del S11.out kk (B11.out.kept kk (fun _ _ _ e => e))).mono ?_
                  rintro e w' ⟨rfl, hs', k'⟩
                  rw [GS.out.2.2.2.2.2] at hs'
                  have k2 := (kk.mono (S' := fun b => W0.heap.size ≤ b ∧ b < kb) (fun _ _ e => e.elim)).trans k' (fun _ _ e => e)
                  exact ⟨by rw [GS.out.2.2.2.2.1], (k2.cell (p := ⟨kb, 0, none⟩) (Nat.lt_of_lt_of_le HQ.out.2.2.2.2.2.2.1.lt KK.out.size) (by simp)).trans hco11, hs', k2⟩)
                have hw1 : IntKind.i64.wrap ((L : Int) - 1) = (L : Int) - 1 := IntWalk.i64_in _ (by omega)
                have hw2 : IntKind.i64.wrap ((L : Int) - 1 - j) = (L : Int) - 1 - j := IntWalk.i64_in _ (by omega)
                clear hs11 k11 hco2
                gi_wp2_with fail
                refine (wpIn_wide (n := 0)).2 ?_
                go_region_held3 (fun w' => w'.cell? ⟨kb, 0, none⟩ = some (.slice (some ⟨rb, 0, none⟩) L c5)) (go_keep) (first
                  | (go_at_call 17; (with_reducible refine Calls.mono (LEN.out _ ?_) ?_); (focus (exact (Kept.refl _ _).twin ⟨rfl, rfl, rfl, rfl⟩)); rintro e w12 ⟨rfl, hc12, k12⟩; have K12 := Lib.hid k12; clear k12)
                  | (go_at_call 23; (with_reducible refine Calls.mono (DEL.out _ ?_) ?_); (focus (exact K12.out.twin ⟨rfl, rfl, rfl, rfl⟩)); rintro e w13 ⟨rfl, hc13, hs13, k13⟩; have H13 := Lib.hid (And.intro hs13 k13); clear hs13 k13))
                all_goals
                  clear hc12 hc13
                  gi_wp2_with fail
                  go_roundw
                  case rel => exact ⟨j + 1, by omega, by go_num, H13.out.1, KK.out.trans H13.out.2 (fun _ _ e => e)⟩
                  case measure => simp [intOf]; omega
              · have hjL : j = L := by omega
                have hnil : leftK Ks P j = [] := by rw [hjL, ← HQ.out.2.2.2.2.2.1]; exact leftK_all HQ.out.2.1 HQ.out.1.nodup
                rw [hnil] at hs2
                have S3 := Lib.hid (show Ses ⟨⟨#[109]⟩, kd, K, V, N⟩ bt (goneP K V 0) (fun b => W0.heap.size ≤ b ∧ b ≠ dk) wr ∧ Kept (fun b => W0.heap.size ≤ b ∧ b ≠ dk) W7 wr from ⟨hs2.mono (fun b h => ⟨h.1, by omega⟩), kq.mono (fun b _ h => ⟨h.1, by omega⟩)⟩)
                clear hjL hnil hs2 kq
                gi_wp2_with fail
                gi_loopw [23] (fun i w => ∃ k : Nat, k ≤ N ∧ i = .int .i64 k ∧ Ses ⟨⟨#[109]⟩, kd, K, V, N⟩ bt (goneP K V k) (fun b => W0.heap.size ≤ b ∧ b ≠ dk) w ∧ Kept (fun b => W0.heap.size ≤ b ∧ b ≠ dk) W7 w) (fun i _ => N - (intOf i).toNat)
                case atStart => exact ⟨0, Nat.zero_le _, rfl, S3.out.1, S3.out.2⟩
                case round =>
                  obtain ⟨y, hy, rfl, hs4, k4⟩ := hrel
                  have k04 : Kept (fun _ => False) W0 wr := HQ.out.2.2.2.1.trans k4 (fun b hb e => by omega)
                  have hb := HB.out.kept k04 (fun e => e)
                  have c2 : wr.cell? ⟨q, 2, none⟩ = some (.int .i64 (K : Int)) := hb.c2
                  have c3 : wr.cell? ⟨q, 3, none⟩ = some (.int .i64 (V : Int)) := hb.c3
                  have c4 : wr.cell? ⟨q, 4, none⟩ = some (.int .i64 (N : Int)) := hb.c4
                  have hqw := hb.row.lt
                  have hdkw : dk < wr.heap.size := Nat.lt_of_lt_of_le (Array.getElem?_eq_some_iff.1 HQ.out.2.2.2.2.2.2.2).1 k4.size
                  have S4 := Lib.hid (And.intro hs4 k4)
                  have K04 := Lib.hid k04
                  clear hb hs4 k4 k04
                  by_cases hyN : y < N
                  · have hmk := make_bytes K (by omega) wr
                    have hlist := made_zero K
                    generalize madeCells (Value.int .u8 0).cells (K * 1) = C at hmk hlist
                    have hCs : C.size = K := by have := congrArg List.length hlist; rw [byteVs_len, zeroB_size] at this; simpa using this
                    have hK0 : (0 : Int) < (K : Int) := by omega
                    have GP := Lib.hid (gone_put K V N kd HKD.out ⟨#[109]⟩ hK1 hK4 hyN hN12)
                    obtain ⟨u0, hcl⟩ := (RowAt.new wr C 5).some (o := 0) (by omega)
                    have hGK : (C.setIfInBounds 0 (.int .u8 (y : Int))).toList = byteVs (goneK K y) := by
                      have hy8 : (UInt8.ofNat y).toNat = y := by simp; omega
                      rw [Array.toList_setIfInBounds, hlist]
                      unfold byteVs nums goneK pokeB
                      rw [Array.toList_setIfInBounds, List.map_set, List.map_set, hy8]
                    have hmk2 : (Instr.makeSlice 34 (.int .i64 (V : Int)) (.int .i64 (V : Int))).run Try.prog (wr.alloc (.cells (C.setIfInBounds 0 (.int .u8 (y : Int))) 5)) = .ok (.slice (some ⟨wr.heap.size + 1, 0, none⟩) V V) ((wr.alloc (.cells (C.setIfInBounds 0 (.int .u8 (y : Int))) 5)).alloc (.cells (madeCells (Value.int .u8 0).cells (V * 1)) 5)) := by
                      have := make_bytes V (by omega) (wr.alloc (.cells (C.setIfInBounds 0 (.int .u8 (y : Int))) 5))
                      rwa [World.size_alloc] at this
                    have hlV := made_zero V
                    generalize madeCells (Value.int .u8 0).cells (V * 1) = C2 at hmk2 hlV
                    have HL := Lib.hid (And.intro hGK hlV)
                    clear hlist hCs hGK hlV
                    gi_wp2_with fail
                    have kA := Kept.one_alloc wr (.cells (C.setIfInBounds 0 (.int .u8 (y : Int))) 5)
                    have kB := Kept.one_alloc (wr.alloc (.cells (C.setIfInBounds 0 (.int .u8 (y : Int))) 5)) (.cells C2 5)
                    have bK : BytesAt ((wr.alloc (.cells (C.setIfInBounds 0 (.int .u8 (y : Int))) 5)).alloc (.cells C2 5)) (some ⟨wr.heap.size, 0, none⟩) K (goneK K y) := (bytes_new wr (goneK K y) 5 rfl (goneK_size K y).symm HL.out.1).kept kB (fun _ _ _ e => e)
                    have bV : BytesAt ((wr.alloc (.cells (C.setIfInBounds 0 (.int .u8 (y : Int))) 5)).alloc (.cells C2 5)) (some ⟨wr.heap.size + 1, 0, none⟩) V (zeroB V) := bytes_new _ (zeroB V) 5 (by simp) (zeroB_size V).symm HL.out.2
                    refine callsIn_WR.2 ((ses_upd S4.out.1 (kA.trans kB (fun _ _ e => e)) bK bV (fun b o e => .inr (by cases e; omega))).mono ?_)
                    rintro e w21 ⟨rfl, hs21, k21⟩
                    rw [GP.out.1]
                    rw [GP.out.2] at hs21
                    have S21 := Lib.hid (show Ses ⟨⟨#[109]⟩, kd, K, V, N⟩ bt (goneP K V (y + 1)) (fun b => W0.heap.size ≤ b ∧ b ≠ dk) w21 ∧ Kept (fun b => W0.heap.size ≤ b ∧ b ≠ dk) W7 w21 from
                      ⟨hs21.mono (fun b h => h.elim id (fun h => ⟨by have := K04.out.size; omega, by omega⟩)), (S4.out.2.trans (kA.trans kB (fun _ _ e => e)) (fun _ _ e => e.elim)).trans k21 (fun _ _ e => e)⟩)
                    clear kA kB bK bV hs21 k21 hmk hmk2 hcl c2 c3 c4
                    have hgl : (goneP K V (y + 1)).length = y + 1 := by simp [goneP]
                    have hw3 : IntKind.i64.wrap ((y : Int) + 1) = (y : Int) + 1 := IntWalk.i64_in _ (by omega)
                    have HGL := Lib.hid hgl
                    clear hgl
                    gi_wp2_with fail
                    refine callsIn_WR.2 ((ses_len S21.out.1).mono ?_)
                    rintro e w22 ⟨rfl, k22⟩
                    rw [HGL.out, show ((y + 1 : Nat) : Int) = (y : Int) + 1 from rfl]
                    have S22 := Lib.hid (And.intro (S21.out.1.keep k22) (S21.out.2.trans k22 (fun _ _ e => e.elim)))
                    clear k22
                    gi_wp2_with fail
                    go_roundw
                    case rel => exact ⟨y + 1, by omega, by go_num, S22.out.1, S22.out.2⟩
                    case measure => simp [intOf]; omega
                  · clear c2 c3
                    gi_wp2_with fail
                    have hdk4 := (S4.out.2.block dk (Array.getElem?_eq_some_iff.1 HQ.out.2.2.2.2.2.2.2).1 (by simp)).trans HQ.out.2.2.2.2.2.2.2
                    refine leaves_marks [dk] _ (by simp) (fun d hd => by rw [List.mem_singleton.1 hd]; exact hdk4) (fun W' kd' => ⟨_, results_tmp rfl _ _ _, rfl, ?_⟩)
                    refine ((K3.out.trans K04.out (fun _ _ e => e)).trans kd' (fun b hb e => ?_))
                    have := List.mem_singleton.1 e
                    have := K3.out.size
                    omega
end Go.Proofs.Ytalahbmahpgkeaa
