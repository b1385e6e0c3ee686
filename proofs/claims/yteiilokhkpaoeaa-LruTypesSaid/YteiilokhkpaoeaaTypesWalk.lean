/- LruTypes, walked: for any keys, any most, it answers true. -/
import Derived.Test.YteiilokhkpaoeaaTypesRel
import Derived.Test.YteiilokhkpaoeaaLruAllUS
import Derived.Test.YteiilokhkpaoeaaShown9
import Derived.Test.YteiilokhkpaoeaaTexts
import Derived.Test.YteiilokhkpaoeaaNum
import Derived.Test.YteiilokhkpaoeaaRefNine
import Derived.Test.YteiilokhkpaoeaaRound
import Derived.Test.YteiilokhkpaoeaaLeave
import Derived.Test.YteiilokhkpaoeaaPlain
import Derived.Deep.CutBlock
import Derived.Deep.RegionHeld3
namespace Go.Proofs.Yteiilokhkpaoeaa
set_option linter.unusedVariables false
set_option linter.unusedSimpArgs false
open Go.RowKit Go.MapKept

theorem intE : Elem Try.prog 42 3 (.int .i64 0) 1 8 := ⟨Try.underlying42, by kernel_rfl, rfl, by omega⟩
theorem own_one (w : World) (v : Value) (e : TypeId) : (w.alloc (.cells #[v] e)).ownsRow 0 e 1 (.slice (some ⟨w.heap.size, 0, none⟩) 1 1) 1 [v] :=
  ⟨by simp, .inr ⟨w.heap.size, 1, #[v], rfl, Nat.zero_le _, heap_alloc_new w _, Nat.le_refl _, by unfold maxLen; omega, by simp, by simp⟩⟩

theorem own_holds {w : World} {base e size n c : Nat} {a : Option Addr} {xs : List Value} (h : w.ownsRow base e size (.slice a n c) n xs) : Holds9 w a xs := by
  rcases h.2 with ⟨_, hx⟩ | ⟨g, cap, cur, hv, _⟩
  · exact holds_nil (by rw [h.1, hx]; simp)
  · injection hv with h1 h2 h3
    subst h1
    subst h3
    intro j u hj
    exact ⟨_, rfl, by rw [add_zero_off]; exact own_cell h hj⟩

set_option maxRecDepth 100000 in
set_option maxHeartbeats 2000000 in
theorem types_any (a : Option Addr) (n c : Nat) (z : Nat → Int) (most : Int) (w : World) (hs : Octets w a n z) (hnc : n ≤ c) (hc : c ≤ 9223372036854775807) :
    Calls Try.prog 5 #[.slice a n c, .int .i64 most] w fun e w' => e = .returned (.bool true) ∧ Kept (fun _ => False) w w' := by
  have HS := Lib.hid hs
  clear hs
  obtain ⟨m, hm, hm32⟩ : ∃ m : Nat, bits BinOp.and IntKind.i64 most 31 = (m : Int) ∧ m < 32 := by
    obtain ⟨m, hm, h⟩ := mask_nat most 5 (by omega) 31 (by decide)
    exact ⟨m, hm, by omega⟩
  refine callsIn_WR (ro := none) (n := 0).1 (callsIn_of_wp_marks Try.func5 rfl trivial ?_ rfl)
  simp only [Try.ntmps5, List.size_toArray, List.length_cons, List.length_nil, Nat.reduceAdd, Nat.reduceSub, Array.replicate_succ, Array.replicate_zero, List.push_toArray, List.append_toArray, List.nil_append, List.cons_append]
  refine WR_of_wp ?_
  go_wp2_with fail
  obtain ⟨W0, hW0⟩ : ∃ W0, W0 = (w.alloc (.cells #[.slice a n c] 39)).alloc (.cells #[.bool false] 4) := ⟨_, rfl⟩
  have k0 : Kept (fun _ => False) w W0 := by rw [hW0]; exact ((Kept.refl _ w).alloc _).alloc _
  have bk : Box W0 w.heap.size (.slice a n c) := by rw [hW0]; exact (Box.new w _ 39).alloc _
  have br : Box W0 (w.heap.size + 1) (.bool false) := by rw [hW0]; have := Box.new (w.alloc (.cells #[.slice a n c] 39)) (.bool false) 4; rwa [World.size_alloc] at this
  have z0 : W0.heap.size = w.heap.size + 2 := by rw [hW0]; simp
  obtain ⟨kb, hkb⟩ : ∃ kb, w.heap.size = kb := ⟨_, rfl⟩
  rw [hkb] at bk br z0
  obtain ⟨rb, hrb⟩ : ∃ rb, kb + 1 = rb := ⟨_, rfl⟩
  rw [hrb] at br
  rw [← hW0, hkb, hrb]
  have HKB := Lib.hid (And.intro hkb hrb)
  clear hW0 hkb hrb
  refine (shown9 W0).mono ?_
  rintro e w0 ⟨rfl, k1⟩
  have bk1 := bk.kept k1 (fun e => e)
  have br1 := br.kept k1 (fun e => e)
  have K1 := Lib.hid (k0.trans k1 (fun _ _ e => e))
  have hz1 : rb < w0.heap.size := br1.lt
  have hckb := bk1.cell
  have hfkb := bk1.frozen
  clear k0 k1 bk br z0
  go_upto_region 3 with fail
  go_cut [19] from 20 to 23 (fun s19 w1 => ∃ N, N ≤ 50 ∧ N ≤ n ∧ w1 = w0.setCell ⟨kb, 0, none⟩ (.slice a N c))
  case first =>
    go_wp2_with fail
    case inl =>
      rename_i h
      go_meet
      case rel => exact ⟨50, by omega, by omega, rfl⟩
    case inr =>
      rename_i h
      go_meet
      case rel => exact ⟨n, by omega, by omega, rfl⟩
  case rest =>
    rename World => w1
    obtain ⟨N, hN50, hNn, hw1⟩ := hcut
    have kq : Kept (fun b => b = kb) w0 w1 := by rw [hw1]; exact Kept.one_set w0 ⟨kb, 0, none⟩ _
    have bk2 : Box w1 kb (.slice a N c) := by rw [hw1]; exact bk1.set _
    have hkr : kb ≠ rb := by have := HKB.out.2; omega
    have br2 := br1.kept kq (fun e => hkr e.symm)
    have K2 := Lib.hid (show Kept (fun _ => False) w w1 from (K1.out.trans (S := fun _ => False) kq (fun b hb e => by have := HKB.out.1; omega)))
    have hz2 : rb < w1.heap.size := br2.lt
    have hck2 := bk2.cell
    clear hw1 kq bk1 br1 hckb hfkb hz1
    go_wp2_with fail
    refine (US.new_own _ w1).mono ?_
    rintro e w2 ⟨bl, bm, rfl, hL, k2, gl, gm⟩
    rw [show max ((1 : Int) + (m : Int)) 1 = ((m + 1 : Nat) : Int) by omega] at hL
    obtain ⟨M, hM⟩ : ∃ M, M = m + 1 := ⟨_, rfl⟩
    rw [← hM] at hL
    have BK2 := Lib.hid (bk2.kept k2 (by have := HKB.out.2; omega))
    have BR2 := Lib.hid (br2.kept k2 (by omega))
    have K3 := Lib.hid (show Kept (fun b => rb < b) w w2 from (K2.out.mono (fun _ _ e => e.elim)).trans k2 (fun b hb e => by omega))
    have hz3 : rb < w2.heap.size := by have := k2.size; omega
    have hgl : rb < bl ∧ rb < bm := by omega
    have HM := Lib.hid hM
    clear bk2 br2 k2 hck2 gl gm hM
    go_wp2_with fail
    go_loopw [7] (fun i wr => ∃ (k : Nat) (xs : List (Ent Int Sl)), k ≤ N ∧ i = .int .i64 k ∧ US.L wr bl bm (M : Int) xs ∧ Twos (TEnt z rb wr) xs (lastM M (lastS z k)) ∧ (∀ b, Lfp bl bm xs b → rb < b) ∧ Kept (fun b => rb < b) w2 wr) (fun i _ => N - (intOf i).toNat)
    case atStart => exact ⟨0, [], Nat.zero_le _, rfl, hL, by simp [lastS, lastM]; exact .nil, fp_nil hgl.1 hgl.2, .refl _ _⟩
    case round =>
      obtain ⟨k, xs, hk, rfl, hx, htw, hge, hkr2⟩ := hrel
      have bk := BK2.out.kept hkr2 (by have := HKB.out.2; omega)
      have hckb := bk.cell
      clear hL
      by_cases hlt : k < N
      · obtain ⟨b, o, rfl, hb, hc0, hz0, hz255⟩ := HS.out k (by omega)
        have hcell : wr.cell? ⟨b, o + k, none⟩ = some (.int .u8 (z k)) := (hkr2.cell (p := ⟨b, o + k, none⟩) (Nat.lt_of_lt_of_le hb K3.out.size) (by simp; have := HKB.out; omega)).trans ((K3.out.cell (p := ⟨b, o + k, none⟩) hb (by simp; have := HKB.out; omega)).trans hc0)
        have hk50 : (k : Int) < 50 := by omega
        have hzw : IntKind.i64.wrap (z k) = z k := iwrap_small (by omega) (by omega)
        clear hc0
        have put : ∀ W', Twin W' (wr.alloc (.cells #[.int .i64 (k : Int), .int .i64 (z k)] 3)) → Calls Try.prog 22 #[.pointer (some ⟨bl, 0, none⟩), .int .u8 (z k), .slice (some ⟨wr.heap.size, 0, none⟩) 2 2] W' fun e w6 => (∃ v1 v2, e = .returned (.tuple #[v1, v2])) ∧
            (∃ xs', US.L w6 bl bm (M : Int) xs' ∧ Twos (TEnt z rb w6) xs' (lastM M (lastS z (k + 1))) ∧ (∀ b, Lfp bl bm xs' b → rb < b) ∧ Kept (fun b => rb < b) w2 w6) ∧ w6.cell? ⟨kb, 0, none⟩ = some (.slice (some ⟨b, o, none⟩) N c) ∧ w6.cell? ⟨b, o + k, none⟩ = some (.int .u8 (z k)) := by
          intro W' t
          have kA : Kept (fun _ => False) wr W' := (Kept.one_alloc wr _).twin t
          have hx' := hx.kept kA (fun _ _ e => e)
          refine (US.put_any (k := z k) (v := (⟨wr.heap.size, 0, none⟩, 2, 2)) hx' (by have := HM.out; omega)).mono ?_
          rintro e w6 ⟨rfl, h6, k6, z6⟩
          have hrb0 : rb < wr.heap.size := by have := hkr2.size; omega
          have hk0 : kb < rb := by have := HKB.out.2; omega
          have hrow : RowAt W' wr.heap.size 2 := by
            have := RowAt.new wr #[.int .i64 (k : Int), .int .i64 (z k)] 3
            exact this.of_block (by rw [t.heap])
          have c0 : W'.cell? ⟨wr.heap.size, 0, none⟩ = some (.int .i64 (k : Int)) := by obtain ⟨_, rfl⟩ := t.eq; exact (by simp : (wr.alloc (.cells #[.int .i64 (k : Int), .int .i64 (z k)] 3)).cell? ⟨wr.heap.size, 0, none⟩ = some (.int .i64 (k : Int)))
          have c1 : W'.cell? ⟨wr.heap.size, 1, none⟩ = some (.int .i64 (z k)) := by obtain ⟨_, rfl⟩ := t.eq; exact (by simp : (wr.alloc (.cells #[.int .i64 (k : Int), .int .i64 (z k)] 3)).cell? ⟨wr.heap.size, 1, none⟩ = some (.int .i64 (z k)))
          have htw' : Twos (TEnt z rb W') xs (lastM M (lastS z k)) := htw.mono (fun x i _ h => h.kept kA (fun _ _ _ e => e))
          have hp := put_twos (z := z) (fun x i h => h.key) htw' M k W'.heap.size (⟨wr.heap.size, 0, none⟩, 2, 2) (fun x h1 h2 => ⟨h1, wr.heap.size, h2, by omega, hrow, c0, c1⟩)
          rw [putS_last z (by have := HM.out; omega) k] at hp
          have hp6 := hp.mono (R' := TEnt z rb w6) (fun x i _ h => h.kept k6 (fun vb _ hr => row_not_fp hx' hr))
          have hkk : Kept (fun b => rb < b) w2 w6 := (hkr2.trans kA (fun _ _ e => e.elim)).trans k6 (fun b _ e => hge b e)
          have kW6 : Kept (Lfp bl bm xs) wr w6 := (kA.mono (fun _ _ e => e.elim)).trans k6 (fun _ _ e => e)
          refine ⟨⟨_, _, rfl⟩, ⟨_, h6, hp6, fp_ge_put (B := rb + 1) (most := (M : Int)) hge (by have := kA.size; omega), hkk⟩, ?_, ?_⟩
          · exact (kW6.cell (p := ⟨kb, 0, none⟩) bk.lt (fun e => by have := hge kb e; omega)).trans hckb
          · exact (kW6.cell (p := ⟨b, o + k, none⟩) (Nat.lt_of_lt_of_le hb (Nat.le_trans K3.out.size hkr2.size)) (fun e => by have := hge b e; have := HKB.out; omega)).trans hcell
        have PUT := Lib.hid put
        clear put hx htw hge bk hkr2
        have hki0 : (0 : Int) ≤ (k : Int) := by omega
        have hki1 : (k : Int) < (N : Int) := by omega
        go_wp2_with fail
        go_region_held3 (fun w' => w'.cell? ⟨kb, 0, none⟩ = some (.slice (some ⟨b, o, none⟩) N c) ∧ w'.cell? ⟨b, o + k, none⟩ = some (.int .u8 (z k))) (go_keep) ((go_at_call 22; refine (PUT.out _ (by exact ⟨rfl, rfl, rfl, rfl⟩)).mono ?_; rintro e w6 ⟨⟨v1, v2, rfl⟩, hG, hc1, hc2⟩; have HG := Lib.hid hG; clear hG))
        all_goals
          go_wp2_with fail
          go_roundw
          case rel =>
            obtain ⟨xs', h1, h2, h3, h4⟩ := HG.out
            exact ⟨k + 1, xs', by omega, by go_num, h1, h2, h3, h4⟩
          case measure => simp [intOf]; omega
      · obtain rfl : k = N := by omega
        have bo := BR2.out.kept hkr2 (by omega)
        obtain ⟨S0, hS0⟩ : ∃ S0, S0 = lastM M (lastS z k) := ⟨_, rfl⟩
        rw [← hS0] at htw
        have HS0 := Lib.hid hS0
        have HTW := Lib.hid htw
        have HX := Lib.hid hx
        have HGE := Lib.hid hge
        have BK := Lib.hid bk
        have BO := Lib.hid bo
        have HKR := Lib.hid hkr2
        have hzr : rb < wr.heap.size := bo.lt
        have hkz : kb < wr.heap.size := bk.lt
        clear hS0 htw hx hge bk bo hkr2
        go_upto_block 2 with fail
        generalize hqb : wr.heap.size = qb at hzr hkz ⊢
        obtain ⟨w3, hw3⟩ : ∃ w3, w3 = wr.alloc (.cells #[.slice none 0 0] 42) := ⟨_, rfl⟩
        have bq : Box w3 qb (.slice none 0 0) := by rw [hw3, ← hqb]; exact Box.new wr _ 42
        have k3 : Kept (fun _ => False) wr w3 := by rw [hw3]; exact Kept.one_alloc wr _
        rw [← hw3]
        have HQ := Lib.hid hqb
        have K33 := Lib.hid k3
        clear hw3 hqb k3
        go_cut [9, 10, 11] from 47 to 84 (fun s9 s10 s11 w4 => ∃ (sv : Value), Box w4 qb sv ∧ w4.ownsRow 0 3 1 sv S0.length (S0.map fun (x : Nat) => .int .i64 x) ∧ (∀ g, sv.ownBlock = some g → qb < g) ∧ Kept (fun b => qb ≤ b) w3 w4)
        case first =>
          go_wp2_with fail
          go_loopw [9] (fun i wz => ∃ (j : Nat) (sv : Value), j ≤ k ∧ i = .int .i64 ((j : Int) - 1) ∧ (fromS z k j).length ≤ M ∧ Box wz qb sv ∧ wz.ownsRow 0 3 1 sv (fromS z k j).length ((fromS z k j).map fun (x : Nat) => .int .i64 x) ∧ (∀ g, sv.ownBlock = some g → qb < g) ∧ Kept (fun b => qb ≤ b) w3 wz) (fun i _ => (intOf i + 1).toNat)
          case atStart => exact ⟨k, _, Nat.le_refl _, rfl, by rw [fromS_top]; simp, bq, by rw [fromS_top]; exact World.ownsRow_nil _ _ _ _, by simp [Value.ownBlock], .refl _ _⟩
          case round =>
            rename World => wz
            obtain ⟨j, sv, hjk, rfl, hlM, bq2, own2, hgq, kz⟩ := hrel
            clear bq hckb
            obtain ⟨qa, qc, rfl, -, hqz, -⟩ := own_form own2
            have bk5 := (BK.out.kept K33.out (fun e => e)).kept kz (by omega)
            have hckb := bk5.cell
            have hcq := bq2.cell
            have hfq := bq2.frozen
            have hmM : (M : Int) = 1 + (m : Int) := by have := HM.out; omega
            have HMM := Lib.hid hmM
            have KW := Lib.hid (show Kept (fun b => rb < b) w wz from ((K3.out.trans HKR.out (fun _ _ e => e)).trans K33.out (fun _ _ e => e.elim)).trans kz (fun b _ e => by omega))
            have hcells : ∀ x, x < k → ∃ b o, a = some ⟨b, o, none⟩ ∧ wz.cell? ⟨b, o + x, none⟩ = some (.int .u8 (z x)) ∧ 0 ≤ z x ∧ z x ≤ 255 := by
              intro x hx
              obtain ⟨b, o, e, hb, hc0, h0, h1⟩ := HS.out x (by omega)
              exact ⟨b, o, e, (KW.out.cell (p := ⟨b, o + x, none⟩) hb (by simp; have := HKB.out; omega)).trans hc0, h0, h1⟩
            have HC := Lib.hid hcells
            have HOWN := Lib.hid own2
            have HGQ := Lib.hid hgq
            have KZ := Lib.hid kz
            have HHQ := Lib.hid hqz
            clear hcells own2 hgq kz bk5 hmM hqz
            obtain ⟨L, hL⟩ : ∃ L, L = (fromS z k j).length := ⟨_, rfl⟩
            rw [← hL] at hcq hlM
            have HL := Lib.hid hL
            clear hL
            by_cases hcont : 0 < j ∧ L < M
            · obtain ⟨hj0, hLM⟩ := hcont
              obtain ⟨i, rfl⟩ : ∃ i, j = i + 1 := ⟨j - 1, by omega⟩
              have hLm : (L : Int) < 1 + (m : Int) := by have := HMM.out; omega
              rw [show (((i + 1 : Nat) : Int) - 1) = (i : Int) by omega]
              have hi50 : (i : Int) < 50 := by omega
              go_wp2_with fail
              go_loopw [10, 11] (fun lst kk wv => ∃ (t : Nat) (lb : Bool), i + 1 ≤ t ∧ t ≤ k ∧ kk = .int .i64 t ∧ lst = .bool lb ∧ (lb = true ↔ ∀ x, i < x → x < t → z x ≠ z i) ∧ Twin wv wz) (fun _ kk _ => k - (intOf kk).toNat)
              case atStart => exact ⟨i + 1, true, Nat.le_refl _, hjk, by go_num, rfl, by simp; omega, .refl _⟩
              case round =>
                rename World => wv
                obtain ⟨t, lb, hit, htk, rfl, rfl, hiff, tw⟩ := hrel
                have hckb : wv.cell? ⟨kb, 0, none⟩ = some (.slice a k c) := by obtain ⟨_, rfl⟩ := tw.eq; exact hckb
                have hcq : wv.cell? ⟨qb, 0, none⟩ = some (.slice qa L qc) := by obtain ⟨_, rfl⟩ := tw.eq; exact hcq
                have hfq : wv.frozen? ⟨qb, 0, none⟩ = false := by obtain ⟨_, rfl⟩ := tw.eq; exact hfq
                have TW := Lib.hid tw
                have HIFF := Lib.hid hiff
                have hqlt : qb < wv.heap.size := by rw [tw.heap]; exact bq2.lt
                clear tw hiff
                by_cases hlt : t < k
                · obtain ⟨b, o, rfl, hct, hz0, hz1⟩ := HC.out t hlt
                  obtain ⟨b', o', e', hci, hzi0, hzi1⟩ := HC.out i (by omega)
                  injection e' with e'
                  injection e' with e1 e2
                  subst e1
                  subst e2
                  have ht50 : (t : Int) < 50 := by omega
                  have hik : i < k := by omega
                  cases lb with
                  | false =>
                    go_wp2_with fail
                    obtain ⟨w5, hw5, t5⟩ : ∃ w5, w5 = ({ wv with drawn := wv.drawn + 1 } : World) ∧ Twin w5 wv := ⟨_, rfl, rfl, rfl, rfl, rfl⟩
                    refine wp_of_WR (n := 0) ?_
                    refine wpW_region_still (by kernel_rfl) (by kernel_rfl) ?_
                    rw [← hw5]
                    have hckb5 : w5.cell? ⟨kb, 0, none⟩ = some (.slice (some ⟨b, o, none⟩) k c) := by obtain ⟨_, rfl⟩ := t5.eq; exact hckb
                    have hct5 : w5.cell? ⟨b, o + t, none⟩ = some (.int .u8 (z t)) := by obtain ⟨_, rfl⟩ := t5.eq; obtain ⟨_, rfl⟩ := TW.out.eq; exact hct
                    have hci5 : w5.cell? ⟨b, o + i, none⟩ = some (.int .u8 (z i)) := by obtain ⟨_, rfl⟩ := t5.eq; obtain ⟨_, rfl⟩ := TW.out.eq; exact hci
                    have T5 := Lib.hid (show Twin w5 wz from ⟨t5.heap.trans TW.out.heap, t5.os.trans TW.out.os, t5.output.trans TW.out.output, t5.tape.trans TW.out.tape⟩)
                    clear hw5 t5 hckb hct hci
                    iterate 2 (with_reducible refine wpStill_want (by kernel_rfl) (fun K hK => ?_); go_simp; with_reducible refine hK _ ?_; clear hK K)
                    iterate 9 (with_reducible refine wpStill_pass (by kernel_rfl) (fun K hK => ?_); go_simp; with_reducible refine hK _ ?_; clear hK K)
                    iterate 2 (with_reducible refine wpStill_want (by kernel_rfl) (fun K hK => ?_); go_simp; with_reducible refine hK _ ?_; clear hK K)
                    refine wpStill_nil ?_
                    gi_wp2_with fail
                    go_wp2_with fail
                    go_roundw
                    case rel => exact ⟨t + 1, false, by omega, by omega, by go_num, rfl, ⟨fun h => (by cases h), fun h => HIFF.out.2 (fun x h1 h2 => h x h1 (by omega))⟩, T5.out⟩
                    case measure => simp [intOf]; omega
                  | true =>
                    by_cases hze : z t = z i
                    · have hzb : (z t == z i) = true := beq_iff_eq.2 hze
                      have hzn : (z t != z i) = false := by simp [hze]
                      have HZE := Lib.hid hze
                      clear hze
                      go_wp2_with fail
                      obtain ⟨w5, hw5, t5⟩ : ∃ w5, w5 = ({ wv with drawn := wv.drawn + 1 } : World) ∧ Twin w5 wv := ⟨_, rfl, rfl, rfl, rfl, rfl⟩
                      refine wp_of_WR (n := 0) ?_
                      refine wpW_region_still (by kernel_rfl) (by kernel_rfl) ?_
                      rw [← hw5]
                      have hckb5 : w5.cell? ⟨kb, 0, none⟩ = some (.slice (some ⟨b, o, none⟩) k c) := by obtain ⟨_, rfl⟩ := t5.eq; exact hckb
                      have hct5 : w5.cell? ⟨b, o + t, none⟩ = some (.int .u8 (z t)) := by obtain ⟨_, rfl⟩ := t5.eq; obtain ⟨_, rfl⟩ := TW.out.eq; exact hct
                      have hci5 : w5.cell? ⟨b, o + i, none⟩ = some (.int .u8 (z i)) := by obtain ⟨_, rfl⟩ := t5.eq; obtain ⟨_, rfl⟩ := TW.out.eq; exact hci
                      have T5 := Lib.hid (show Twin w5 wz from ⟨t5.heap.trans TW.out.heap, t5.os.trans TW.out.os, t5.output.trans TW.out.output, t5.tape.trans TW.out.tape⟩)
                      clear hw5 t5 hckb hct hci
                      iterate 13 (with_reducible refine wpStill_want (by kernel_rfl) (fun K hK => ?_); go_simp; with_reducible refine hK _ ?_; clear hK K)
                      refine wpStill_nil ?_
                      gi_wp2_with fail
                      go_wp2_with fail
                      go_roundw
                      case rel => exact ⟨t + 1, false, by omega, by omega, by go_num, rfl, ⟨fun h => (by cases h), fun h => (h t (by omega) (by omega) HZE.out).elim⟩, T5.out⟩
                      case measure => simp [intOf]; omega
                    · have hzb : (z t == z i) = false := beq_eq_false_iff_ne.2 hze
                      have hzn : (z t != z i) = true := by simp [hze]
                      have HZE := Lib.hid hze
                      clear hze
                      go_wp2_with fail
                      obtain ⟨w5, hw5, t5⟩ : ∃ w5, w5 = ({ wv with drawn := wv.drawn + 1 } : World) ∧ Twin w5 wv := ⟨_, rfl, rfl, rfl, rfl, rfl⟩
                      refine wp_of_WR (n := 0) ?_
                      refine wpW_region_still (by kernel_rfl) (by kernel_rfl) ?_
                      rw [← hw5]
                      have hckb5 : w5.cell? ⟨kb, 0, none⟩ = some (.slice (some ⟨b, o, none⟩) k c) := by obtain ⟨_, rfl⟩ := t5.eq; exact hckb
                      have hct5 : w5.cell? ⟨b, o + t, none⟩ = some (.int .u8 (z t)) := by obtain ⟨_, rfl⟩ := t5.eq; obtain ⟨_, rfl⟩ := TW.out.eq; exact hct
                      have hci5 : w5.cell? ⟨b, o + i, none⟩ = some (.int .u8 (z i)) := by obtain ⟨_, rfl⟩ := t5.eq; obtain ⟨_, rfl⟩ := TW.out.eq; exact hci
                      have T5 := Lib.hid (show Twin w5 wz from ⟨t5.heap.trans TW.out.heap, t5.os.trans TW.out.os, t5.output.trans TW.out.output, t5.tape.trans TW.out.tape⟩)
                      clear hw5 t5 hckb hct hci
                      iterate 13 (with_reducible refine wpStill_want (by kernel_rfl) (fun K hK => ?_); go_simp; with_reducible refine hK _ ?_; clear hK K)
                      refine wpStill_nil ?_
                      gi_wp2_with fail
                      go_wp2_with fail
                      go_roundw
                      case rel => exact ⟨t + 1, true, by omega, by omega, by go_num, rfl, ⟨fun _ x h1 h2 => by
                          by_cases e : x = t
                          · rw [e]; exact HZE.out
                          · exact HIFF.out.1 trivial x h1 (by omega), fun _ => rfl⟩, T5.out⟩
                      case measure => simp [intOf]; omega
                · obtain rfl : t = k := by omega
                  have hmem : lb = true ↔ i ∈ lastS z t := by
                    rw [lastS_mem]
                    refine HIFF.out.trans ⟨fun h => ⟨by omega, fun x h1 h2 => h x h1 h2⟩, fun h => fun x h1 h2 => h.2 x h1 h2⟩
                  have hstep := fromS_step z t i
                  cases lb with
                  | false =>
                    have hni : i ∉ lastS z t := fun h => by have := hmem.2 h; cases this
                    rw [if_neg hni, List.nil_append] at hstep
                    have HST := Lib.hid hstep
                    have OW := Lib.hid (HOWN.out)
                    clear hstep hmem
                    go_wp2_with fail
                    go_roundw
                    case rel => exact ⟨i, _, by omega, by go_num, by rw [HST.out, ← HL.out]; exact hlM, bq2.twin TW.out, by rw [HST.out, ← HL.out]; exact ownsRow_kept (HL.out ▸ HOWN.out) ((Kept.refl (fun _ => False) wz).twin TW.out) (fun _ _ e => e), HGQ.out, (KZ.out.twin TW.out)⟩
                    case measure => simp [intOf] <;> omega
                  | true =>
                    have hni : i ∈ lastS z t := hmem.1 rfl
                    rw [if_pos hni] at hstep
                    have HST := Lib.hid hstep
                    clear hstep hmem
                    have own5 : wv.ownsRow 0 3 1 (.slice qa L qc) L ((fromS z t (i + 1)).map fun (x : Nat) => .int .i64 x) := ownsRow_kept (HL.out ▸ HOWN.out) ((Kept.refl (fun _ => False) wz).twin TW.out) (fun _ _ e => e)
                    have hLL : ((fromS z t (i + 1)).map fun (x : Nat) => Value.int .i64 x).length = L * 1 := by simp [← HL.out]
                    have h1c : ∀ u ∈ (fromS z t (i + 1)).map (fun (x : Nat) => Value.int .i64 x), u.oneCell' = true := by
                      intro u hu
                      obtain ⟨x, _, rfl⟩ := List.mem_map.1 hu
                      rfl
                    have hh := own_holds (ownsRow_kept own5 (Kept.one_alloc wv (.cells #[.int .i64 (i : Int)] 3)) (fun _ _ e => e))
                    have OWN5 := Lib.hid own5
                    have HLL := Lib.hid hLL
                    have H1C := Lib.hid h1c
                    have HH := Lib.hid hh
                    have bq3 := bq2.twin TW.out
                    have hM33 : M ≤ 32 := by have := HM.out; omega
                    clear own5 hLL h1c hh
                    go_wp2_with (at_builtin; refine wpList_append_mine rfl (.tmp 82) (.tmp 83) intE (by rfl) (by rfl) (own_one wv (.int .i64 (i : Int)) 3) qa L qc _ (by rfl) HLL.out HH.out H1C.out (by unfold maxLen; omega) (by omega) ?_; intro a3 c3 w6 own6 k6 b6; have bq6 := (bq3.alloc (.cells #[.int .i64 (i : Int)] 3)).kept k6 (fun e => by have e : some wv.heap.size = some qb := e; have := Option.some.inj e; omega); have hcq6 := bq6.cell; have hfq6 := bq6.frozen; have OWN6 := Lib.hid own6; have K6 := Lib.hid k6; have B6 := Lib.hid b6; clear own6 k6 b6)
                    have hblk : ∀ g, (Value.slice a3 (1 + L) c3).ownBlock = some g → qb < g := by
                      intro g hg
                      rcases B6.out with h | h
                      · have h' : some wv.heap.size = some g := h.symm.trans hg
                        have := Option.some.inj h'
                        omega
                      · have h' := Option.some.inj (h.symm.trans hg)
                        have : (wv.alloc (.cells #[.int .i64 (i : Int)] 3)).heap.size = wv.heap.size + 1 := by simp
                        omega
                    have hfin : (w6.setCell ⟨qb, 0, none⟩ (.slice a3 (1 + L) c3)).ownsRow 0 3 1 (.slice a3 (1 + L) c3) (fromS z t i).length ((fromS z t i).map fun (x : Nat) => .int .i64 x) := by
                      have h := ownsRow_kept OWN6.out (Kept.one_set w6 ⟨qb, 0, none⟩ (.slice a3 (1 + L) c3)) (fun g hg e => by have := hblk g hg; simp only at e; omega)
                      rw [HST.out]
                      rw [List.length_append, List.map_append, ← HL.out]
                      exact h
                    have hkfin : Kept (fun b => qb ≤ b) w3 (w6.setCell ⟨qb, 0, none⟩ (.slice a3 (1 + L) c3)) := by
                      refine ((((KZ.out.twin TW.out).alloc _).trans K6.out (fun b _ e => ?_)).setCell _ _ (fun _ => Nat.le_refl _))
                      have e : some wv.heap.size = some b := e
                      have := Option.some.inj e
                      show qb ≤ b
                      omega
                    have hfl : (fromS z t i).length = 1 + L := by rw [HST.out, List.length_append, ← HL.out]; rfl
                    go_roundw
                    case rel => exact ⟨i, _, by omega, rfl, by omega, bq6.set _, hfin, hblk, hkfin⟩
                    case measure => simp [intOf] <;> omega
            · have hS : fromS z k j = S0 := by
                rw [HS0.out]
                by_cases h0 : j = 0
                · subst h0
                  rw [fromS_zero, lastM_all]
                  have := HL.out
                  rw [fromS_zero] at this
                  omega
                · refine fromS_full ?_
                  have := HL.out
                  omega
              rw [hS] at HL HOWN
              have HSS := Lib.hid hS
              clear hS
              have hway : j = 0 ∨ (∃ i : Nat, j = i + 1 ∧ L = M) := by
                by_cases h0 : j = 0
                · exact .inl h0
                · exact .inr ⟨j - 1, by omega, by omega⟩
              rcases hway with rfl | ⟨i, rfl, hLM⟩
              · have hd : decide ((0 : Int) ≤ ((0 : Nat) : Int) - 1) = false := by decide
                go_wp2_with fail
                go_meet
                case rel => exact ⟨.slice qa S0.length qc, by rw [← HSS.out]; exact bq2, HOWN.out, by rw [← HSS.out]; exact HGQ.out, KZ.out⟩
              · have hLm : ¬ ((L : Int) < 1 + (m : Int)) := by have := HMM.out; omega
                rw [show (((i + 1 : Nat) : Int) - 1) = (i : Int) by omega]
                go_wp2_with fail
                go_meet
                case rel => exact ⟨.slice qa S0.length qc, by rw [← HSS.out]; exact bq2, HOWN.out, by rw [← HSS.out]; exact HGQ.out, KZ.out⟩
        case rest =>
          rename World => w4
          obtain ⟨sv, bq4, own4, hgq4, k4⟩ := hcut
          obtain ⟨qa, qc, rfl, -, -, -⟩ := own_form own4
          have kw4 : Kept (fun b => qb ≤ b) wr w4 := (K33.out.mono (fun _ _ e => e.elim)).trans k4 (fun _ _ e => e)
          have hLq : ∀ b, Lfp bl bm xs b → b < qb := fun b hb => by have := HX.out.lt b hb; have := HQ.out; omega
          have hx4 : US.L w4 bl bm (M : Int) xs := HX.out.kept kw4 (fun b hb e => by have := hLq b hb; omega)
          have htw4 : Twos (TEnt z rb w4) xs S0 := HTW.out.mono (fun x i _ h => h.kept kw4 (fun vb _ hr e => by have := hr.lt; have := HQ.out; omega))
          have hvq : ∀ (x : Ent Int Sl) (i : Nat), TEnt z rb wr x i → x.v.1.block < qb := fun x i h => by
            obtain ⟨vb, hv, _, hr, _⟩ := h.val
            rw [hv]
            have := hr.lt
            have := HQ.out
            show vb < qb
            omega
          have bk4 := BK.out.kept kw4 (by omega)
          have bo4 := BO.out.kept kw4 (by omega)
          have KW4 := Lib.hid (show Kept (fun b => rb < b) w w4 from (K3.out.trans HKR.out (fun _ _ e => e)).trans kw4 (fun b _ e => by omega))
          have HX4 := Lib.hid hx4
          have HTW4 := Lib.hid htw4
          have OWN4 := Lib.hid own4
          have HGQ4 := Lib.hid hgq4
          have HLQ := Lib.hid hLq
          have BK4 := Lib.hid bk4
          have BO4 := Lib.hid bo4
          have BQ4 := Lib.hid bq4
          have hqw : qb < w4.heap.size := bq4.lt
          clear bq own4 hgq4 k4 kw4 hx4 htw4 hvq bk4 bo4 bq4 hLq hckb
          go_wp2_with fail
          obtain ⟨nb, hnb⟩ : ∃ nb, w4.heap.size = nb := ⟨_, rfl⟩
          obtain ⟨w5, hw5⟩ : ∃ w5, w5 = w4.alloc (.cells #[.int .i64 0] 3) := ⟨_, rfl⟩
          have k5 : Kept (fun _ => False) w4 w5 := by rw [hw5]; exact Kept.one_alloc w4 _
          have bn5 : Box w5 nb (.int .i64 (0 : Nat)) := by rw [hw5, ← hnb]; exact Box.new w4 _ 3
          rw [← hw5, hnb]
          clear hw5
          refine (US.all_own bl w5).mono ?_
          rintro e w6 ⟨bx0, rfl, _, k6, _⟩
          have hnf := run_eq_nilFunc (P := Try.prog) w6 (.func 52) #[] #[.pointer (some ⟨bx0, 0, none⟩)] Try.underlying46
          go_wp2_with fail
          refine (US.all_own bl w6).mono ?_
          rintro e w7 ⟨bx, rfl, hbx, k7, gx⟩
          go_wp2_with fail
          have k47 : Kept (fun _ => False) w4 w7 := (k5.trans k6 (fun _ _ e => e)).trans k7 (fun _ _ e => e)
          have bn7 := (bn5.kept k6 (fun e => e)).kept k7 (fun e => e)
          have hx7 := HX4.out.kept k47 (fun _ _ e => e)
          have hRd : US.Rd bx bl bm (M : Int) xs w7 := ⟨hbx.cell, hbx.lt, hx7⟩
          have hnbx : nb < bx := by have h1 := bn5.lt; have := k6.size; omega
          have hbxlt : bx < w7.heap.size := hbx.lt
          have hqn : qb < nb := by omega
          have K47 := Lib.hid k47
          have HX7 := Lib.hid hx7
          have HRD := Lib.hid hRd
          have hnw4 : w4.heap.size ≤ nb := by omega
          clear hnf k5 k6 k7 bn5 hbx gx hnb k47 hx7 hRd
          refine wp_of_WR (n := 0) ?_
          refine wpW_range (US.all1 bx bl bm (M : Int) xs) rfl US.enters (fun _ => rfl) (fun (pre : List (Ent Int Sl)) U W => Box W nb (.int .i64 (pre.length : Nat)) ∧ U nb ∧ ∀ x, x < w7.heap.size → ¬ (x = bx ∨ Lfp bl bm xs x) → x ≠ nb → U x ∧ W.heap[x]? = w7.heap[x]? ∧ x < W.heap.size)
            (fun _ _ _ => False) (fun x => x < w7.heap.size ∧ ¬ (x = bx ∨ Lfp bl bm xs x))
            ?_ (fun _ _ _ _ h _ => h) ?_ ?_ ?_ HRD.out ?_ ⟨bn7, ⟨bn7.lt, fun h => by rcases h with h | h; exact (by omega); have := HLQ.out nb h; omega⟩, fun x hx hd _ => ⟨⟨hx, hd⟩, rfl, hx⟩⟩ ?_ ?_ (fun _ _ _ _ h => h.elim)
          · rintro pre U W1 W2 ⟨h1, h2, h3⟩ kq
            refine ⟨h1.kept kq (fun e => e h2), h2, fun x hx hd hn => ?_⟩
            obtain ⟨g1, g2, g3⟩ := h3 x hx hd hn
            exact ⟨g1, (kq.block x g3 (fun e => e g1)).trans g2, Nat.lt_of_lt_of_le g3 kq.size⟩
          · exact fun x hu hd => hu.2 hd
          · rintro x (rfl | hd)
            · exact hbxlt
            · exact HX7.out.lt x hd
          · exact fun x hu => hu.1
          · exact fun W W' h kq => h.kept kq (fun e => e (.inl rfl)) (fun b hb e => e (.inr hb))
          · intro l pre y rest U' W1 hitems hi hlt' hD' hRd' hl hlD hlW hUU
            have HLT := Lib.hid hlt'
            have HIT := Lib.hid hitems
            clear hUU hlt' hD' hRd' hlD hitems bn7
            simp only [List.zip_toArray, List.zip_cons_cons, List.zip_nil_left, List.foldl_toArray', List.foldl_cons, List.foldl_nil, List.setIfInBounds_toArray, List.set_cons_succ, List.set_cons_zero]
            gi_wp2_with (rw [Oper.semAt_eq _ _ _ (fun c h => by cases h)]; go_simp; try go_bits)
            refine ⟨trivial, ?_⟩
            intro W2 kl zl
            have ZL := Lib.hid zl
            clear zl
            obtain ⟨h1, h2, h3⟩ := hi
            have hkk : Kept (fun x => ¬ U' x) W1 W2 := kl.mono fun x _ e h => by subst e; exact hl h
            have g1 := h1.kept hkk (fun e => e h2)
            have g3 : ∀ x, x < w7.heap.size → ¬ (x = bx ∨ Lfp bl bm xs x) → x ≠ nb → U' x ∧ W2.heap[x]? = w7.heap[x]? ∧ x < W2.heap.size := fun x hx hd hn => by
              obtain ⟨q1, q2, q3⟩ := h3 x hx hd hn
              exact ⟨q1, (hkk.block x q3 (fun e => e q1)).trans q2, Nat.lt_of_lt_of_le q3 hkk.size⟩
            have hcell4 : ∀ x o, x < w4.heap.size → ¬ Lfp bl bm xs x → W2.cell? ⟨x, o, none⟩ = w4.cell? ⟨x, o, none⟩ := by
              intro x o hx hn
              have hx7 : x < w7.heap.size := Nat.lt_of_lt_of_le hx K47.out.size
              exact (World.cell?_of_block (w := w7) (g3 x hx7 (fun h => h.elim (fun e => by omega) hn) (by omega)).2.1).trans (K47.out.cell (p := ⟨x, o, none⟩) hx (fun e => e))
            -- what stands at this place
            obtain ⟨p, hp⟩ : ∃ p, p = pre.length := ⟨_, rfl⟩
            obtain ⟨m1, i, m2, hS1, hty, hm1⟩ := (HIT.out ▸ HTW4.out : Twos (TEnt z rb w4) (pre ++ y :: rest) S0).split
            have hSi : S0[p]? = some i := by rw [hS1, hp, hm1]; simp
            have hpL : p < S0.length := (List.getElem?_eq_some_iff.1 hSi).1
            have hik : i < k := by
              have hmem : i ∈ lastS z k := by
                have h1 : i ∈ S0 := by rw [hS1]; simp
                rw [HS0.out] at h1
                exact List.mem_of_mem_drop h1
              exact lastS_lt z k i hmem
            obtain ⟨hyk, vb, hyv, hvrb, hvrow, hv0, hv1⟩ := hty
            obtain ⟨ab, ao, rfl, hab, hca, hz0, hz255⟩ := HS.out i (by omega)
            obtain ⟨ga, gc, hg⟩ : ∃ ga gc, Value.slice qa S0.length qc = .slice (some ⟨ga, 0, none⟩) S0.length gc := by
              obtain ⟨a', c', e, hg0, hz, _⟩ := own_form OWN4.out
              obtain ⟨g, rfl⟩ := hg0 (by omega)
              exact ⟨g, c', e⟩
            have hg1 : qa = some ⟨ga, 0, none⟩ := by injection hg
            subst hg1
            have hgq : qb < ga := HGQ4.out ga rfl
            have hcw : w4.cell? ⟨ga, p, none⟩ = some (.int .i64 i) := own_cell OWN4.out (by rw [List.getElem?_map, hSi]; rfl)
            have hnab : ¬ Lfp bl bm xs ab := fun h => by have := HGE.out ab h; have := HKB.out; omega
            have hnkb : ¬ Lfp bl bm xs kb := fun h => by have := HGE.out kb h; have := HKB.out; omega
            have hnqb : ¬ Lfp bl bm xs qb := fun h => by have := HLQ.out qb h; omega
            have hnga : ¬ Lfp bl bm xs ga := fun h => by have := HLQ.out ga h; omega
            have hnvb : ¬ Lfp bl bm xs vb := row_not_fp HX4.out hvrow
            have hgw : ga < w4.heap.size := (OWN4.out.lt ga rfl).2
            have c_n := g1.cell
            have f_n := g1.frozen
            have c_k : W2.cell? ⟨kb, 0, none⟩ = some (.slice (some ⟨ab, ao, none⟩) k c) := (hcell4 kb 0 BK4.out.lt hnkb).trans BK4.out.cell
            have c_q : W2.cell? ⟨qb, 0, none⟩ = some (.slice (some ⟨ga, 0, none⟩) S0.length qc) := (hcell4 qb 0 hqw hnqb).trans BQ4.out.cell
            have c_a : W2.cell? ⟨ab, ao + i, none⟩ = some (.int .u8 (z i)) := (hcell4 ab (ao + i) (Nat.lt_of_lt_of_le hab KW4.out.size) hnab).trans ((KW4.out.cell (p := ⟨ab, ao + i, none⟩) hab (by simp; have := HKB.out; omega)).trans hca)
            have c_w : W2.cell? ⟨ga, p, none⟩ = some (.int .i64 i) := (hcell4 ga p hgw hnga).trans hcw
            have c_0 : W2.cell? ⟨vb, 0, none⟩ = some (.int .i64 i) := (hcell4 vb 0 hvrow.lt hnvb).trans hv0
            have c_1 : W2.cell? ⟨vb, 1, none⟩ = some (.int .i64 (z i)) := (hcell4 vb 1 hvrow.lt hnvb).trans hv1
            rw [← hp] at c_n
            have HP := Lib.hid hp
            have G1 := Lib.hid g1
            have G3 := Lib.hid g3
            have hplen : (((pre ++ [y]).length : Nat) : Int) = (p : Int) + 1 := by rw [List.length_append, ← hp]; simp
            have HPL := Lib.hid hplen
            obtain ⟨yb, yk, yv⟩ := y
            dsimp only at hyk hyv
            subst hyk
            subst hyv
            obtain ⟨N9, hN9⟩ : ∃ N9, N9 = S0.length := ⟨_, rfl⟩
            rw [← hN9] at c_q hpL
            have hMN : N9 ≤ k := by
              rw [hN9, HS0.out, lastM_len]
              have h1 := lastS_len z k
              omega
            have h2' := h2
            have HN9 := Lib.hid hN9
            have hzw : IntKind.i64.wrap (z i) = z i := iwrap_small (by omega) (by omega)
            clear h1 h2 h3 hkk g1 g3 hcell4 hp hS1 hSi hm1 hvrow hv0 hv1 hcw hca hnab hnkb hnqb hnga hnvb hgw hplen hN9 hg
            obtain ⟨w5, hw5, t5⟩ : ∃ w5, w5 = ({ W2 with drawn := W2.drawn + 1 } : World) ∧ Twin w5 W2 := ⟨_, rfl, rfl, rfl, rfl, rfl⟩
            gi_wp2_with (rw [Oper.semAt_eq _ _ _ (fun c h => by cases h)]; go_simp; try go_bits)
            refine wpW_region_still (by kernel_rfl) (by kernel_rfl) ?_
            rw [← hw5]
            simp only [vUS]
            have hge1 : ¬ (N9 ≤ p) := by omega
            have hge2 : ¬ ((N9 : Int) ≤ (p : Int)) := by omega
            have c_n5 : w5.cell? ⟨nb, 0, none⟩ = some (.int .i64 (p : Nat)) := by obtain ⟨_, rfl⟩ := t5.eq; exact c_n
            have f_n5 : w5.frozen? ⟨nb, 0, none⟩ = false := by obtain ⟨_, rfl⟩ := t5.eq; exact f_n
            have c_k5 : w5.cell? ⟨kb, 0, none⟩ = some (.slice (some ⟨ab, ao, none⟩) k c) := by obtain ⟨_, rfl⟩ := t5.eq; exact c_k
            have c_q5 : w5.cell? ⟨qb, 0, none⟩ = some (.slice (some ⟨ga, 0, none⟩) N9 qc) := by obtain ⟨_, rfl⟩ := t5.eq; exact c_q
            have c_a5 : w5.cell? ⟨ab, ao + i, none⟩ = some (.int .u8 (z i)) := by obtain ⟨_, rfl⟩ := t5.eq; exact c_a
            have c_w5 : w5.cell? ⟨ga, p, none⟩ = some (.int .i64 (i : Nat)) := by obtain ⟨_, rfl⟩ := t5.eq; exact c_w
            have c_05 : w5.cell? ⟨vb, 0, none⟩ = some (.int .i64 (i : Nat)) := by obtain ⟨_, rfl⟩ := t5.eq; exact c_0
            have c_15 : w5.cell? ⟨vb, 1, none⟩ = some (.int .i64 (z i)) := by obtain ⟨_, rfl⟩ := t5.eq; exact c_1
            have T5 := Lib.hid t5
            clear hw5 t5 c_n f_n c_k c_q c_a c_w c_0 c_1
            iterate 38 (with_reducible refine wpStill_want (by kernel_rfl) (fun K hK => ?_); go_simp; with_reducible refine hK _ ?_; clear hK K)
            refine wpStill_nil ?_
            gi_wp2_with (rw [Oper.semAt_eq _ _ _ (fun c h => by cases h)]; go_simp; try go_bits)
            have hU2 : U' nb := h2'
            have kall : Kept (fun b => b = nb) W2 (w5.setCell ⟨nb, 0, none⟩ (.int .i64 ((p : Int) + 1))) := (((Kept.refl (fun _ => False) W2).twin T5.out).mono (S' := fun b => b = nb) (fun _ _ e => e.elim)).trans (Kept.one_set w5 ⟨nb, 0, none⟩ (.int .i64 ((p : Int) + 1))) (fun _ _ e => e)
            have hend := round_plain kl hl HLT.out hlW (kall.mono (S' := U') (fun b _ e => by rw [e]; exact hU2))
            refine ⟨hend.1, U', hend.2.1, hl, hend.2.2.2, ?_, hU2, fun x hx hd1 hd2 hn => ?_⟩
            · rw [HPL.out]
              exact (G1.out.twin T5.out).set _
            · obtain ⟨q1, q2, q3⟩ := G3.out x hx (fun h => h.elim hd1 hd2) hn
              exact ⟨q1, (kall.block x q3 hn).trans q2, Nat.lt_of_lt_of_le q3 kall.size⟩
          · intro dk U3 W3 hi kw hRd' hdk hdkn hdkU hUU hUn hUlt
            obtain ⟨b1, -, b3⟩ := hi
            have hlen : S0.length = xs.length := HTW4.out.len.symm
            have hcell4 : ∀ x o, x < w4.heap.size → ¬ Lfp bl bm xs x → W3.cell? ⟨x, o, none⟩ = w4.cell? ⟨x, o, none⟩ := by
              intro x o hx hn
              have hx7 : x < w7.heap.size := Nat.lt_of_lt_of_le hx K47.out.size
              exact (World.cell?_of_block (w := w7) (b3 x hx7 (fun h => h.elim (fun e => by omega) hn) (by omega)).2.1).trans (K47.out.cell (p := ⟨x, o, none⟩) hx (fun e => e))
            have hnrb : ¬ Lfp bl bm xs rb := fun h => by have := HGE.out rb h; omega
            have hnqb : ¬ Lfp bl bm xs qb := fun h => by have := HLQ.out qb h; omega
            obtain ⟨N9, hN9⟩ : ∃ N9, N9 = xs.length := ⟨_, rfl⟩
            have c_n := b1.cell
            have c_q : W3.cell? ⟨qb, 0, none⟩ = some (.slice qa S0.length qc) := (hcell4 qb 0 hqw hnqb).trans BQ4.out.cell
            rw [hlen, ← hN9] at c_q
            rw [← hN9] at c_n
            have bo3 : Box W3 rb (.bool false) := by
              have h := b3 rb (by omega) (fun h => h.elim (fun e => by omega) hnrb) (by omega)
              have h4 := BO4.out.kept K47.out (fun e => e)
              exact ⟨h4.row.of_block h.2.1, (World.cell?_of_block (w := w7) (w' := W3) (a := ⟨rb, 0, none⟩) h.2.1).trans h4.cell⟩
            have c_r := bo3.cell
            have f_r := bo3.frozen
            have hL3 := hRd'.2.2
            have HN9 := Lib.hid hN9
            have KW := Lib.hid kw
            have B3 := Lib.hid b3
            clear b1 b3 hlen hcell4 kw hRd' hN9 bn7
            go_wp2_with fail
            refine wp_of_WR (n := 0) ?_
            obtain ⟨w5, hw5, t5⟩ : ∃ w5, w5 = ({ W3 with drawn := W3.drawn + 1 } : World) ∧ Twin w5 W3 := ⟨_, rfl, rfl, rfl, rfl, rfl⟩
            refine wpW_region_tail 13 (by kernel_rfl) (by kernel_rfl) ?_
            rw [← hw5]
            simp only [List.take_succ_cons, List.take_zero, List.drop_succ_cons, List.drop_zero]
            have c_n5 : w5.cell? ⟨nb, 0, none⟩ = some (.int .i64 (N9 : Nat)) := by obtain ⟨_, rfl⟩ := t5.eq; exact c_n
            have c_q5 : w5.cell? ⟨qb, 0, none⟩ = some (.slice qa N9 qc) := by obtain ⟨_, rfl⟩ := t5.eq; exact c_q
            have c_r5 : w5.cell? ⟨rb, 0, none⟩ = some (.bool false) := by obtain ⟨_, rfl⟩ := t5.eq; exact c_r
            have f_r5 : w5.frozen? ⟨rb, 0, none⟩ = false := by obtain ⟨_, rfl⟩ := t5.eq; exact f_r
            have LEN : Calls Try.prog 24 #[.pointer (some ⟨bl, 0, none⟩)] w5 fun e w'' => e = .returned (.int .i64 (N9 : Nat)) ∧ w'' = w5 := (US.len_any (hL3.twin t5)).mono fun e w' ⟨h1, h2⟩ => ⟨by rw [HN9.out]; exact h1, h2.symm⟩
            have T5 := Lib.hid t5
            have BO3 := Lib.hid bo3
            clear hw5 t5 c_n c_q c_r f_r hL3 bo3
            iterate 9 (with_reducible refine wpStill_want (by kernel_rfl) (fun K hK => ?_); go_simp; with_reducible refine hK _ ?_; clear hK K)
            with_reducible refine wpStill_want (by kernel_rfl) (fun K hK => ?_); go_simp; refine ⟨_, LEN, ?_⟩; with_reducible refine hK _ ?_; clear hK K
            iterate 3 (with_reducible refine wpStill_want (by kernel_rfl) (fun K hK => ?_); go_simp; with_reducible refine hK _ ?_; clear hK K)
            refine wpStill_nil ?_
            gi_wp2_with fail
            go_wp2_with fail
            have hdlt := (Array.getElem?_eq_some_iff.1 hdk).1
            have hrd : rb < dk := by omega
            refine leaves_marks [dk] _ (by simp) (fun d hd => ?_) (fun W' kd => ?_)
            · rw [List.mem_singleton.1 hd]
              refine (Below.heap_setCell _ _ _ _ (by simp; omega)).trans ?_
              rw [T5.out.heap]
              exact hdk
            · have hb := ((BO3.out.twin T5.out).set (.bool true)).kept kd (by simp; omega)
              refine ⟨_, results_box rfl Try.underlying4 rfl rfl hb, rfl, ?_⟩
              have kx : Kept (fun b => kb ≤ b) w w7 := (KW4.out.mono (S' := fun b => kb ≤ b) (fun b _ e => by have := HKB.out; omega)).trans K47.out (fun _ _ e => e.elim)
              have kz : Kept (fun b => kb ≤ b) w W3 := by
                refine ⟨KW.out.os.trans kx.os, KW.out.tape.trans kx.tape, KW.out.output.trans kx.output, Nat.le_trans kx.size KW.out.size, fun x hx hn => ?_⟩
                have h1 := HKB.out
                have h2 := kx.size
                exact (B3.out x (by omega) (fun h => h.elim (fun e => by omega) (fun h => by have := HGE.out x h; omega)) (by omega)).2.1.trans (kx.block x hx hn)
              refine (((kz.twin T5.out).setCell ⟨rb, 0, none⟩ (.bool true) (fun _ => by show kb ≤ rb; have := HKB.out; omega)).trans kd (fun b hb e => by have := List.mem_singleton.1 e; have := HKB.out; omega)).mono (fun b hb e => ?_)
              have := HKB.out.1
              omega
end Go.Proofs.Yteiilokhkpaoeaa
