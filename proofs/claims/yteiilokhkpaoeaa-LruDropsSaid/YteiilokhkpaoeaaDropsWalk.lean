/- LruDrops, walked: for any keys, any drops, it answers true. -/
import Derived.Test.YteiilokhkpaoeaaSame9
import Derived.Test.YteiilokhkpaoeaaBoth9
import Derived.Test.YteiilokhkpaoeaaShown9
import Derived.Test.YteiilokhkpaoeaaTexts
import Derived.Deep.CutBlock
import Derived.Laws.BytesArg
namespace Go.Proofs.Yteiilokhkpaoeaa
set_option linter.unusedVariables false
set_option linter.unusedSimpArgs false
open Go.RowKit Go.MapKept

/-- What the first k keys make of a list with room for all. -/
def seqP (ss : Nat → ByteArray) : Nat → List P9
  | 0 => []
  | k + 1 => dropP (ss k) (seqP ss k) ++ [(ss k, (k : Int))]
theorem outE_room {κ ν : Type} [DecidableEq κ] {most : Int} {k : κ} {xs : List (Ent κ ν)} (h : (xs.length : Int) + 1 ≤ most) : outE most k xs = none := by
  unfold outE
  split
  · rfl
  · rw [if_pos h]
theorem dropP_not {k : ByteArray} {ps : List P9} : ∀ p ∈ dropP k ps, p.1 ≠ k := by
  intro p hp
  simpa using (List.mem_filter.1 hp).2
theorem seqP_keys (ss : Nat → ByteArray) : ∀ k, ((seqP ss k).map (·.1)).Nodup
  | 0 => by simp [seqP]
  | k + 1 => by
    have h := seqP_keys ss k
    have hd : ((dropP (ss k) (seqP ss k)).map (·.1)).Nodup := h.sublist ((List.filter_sublist).map _)
    have hn : ss k ∉ (dropP (ss k) (seqP ss k)).map (·.1) := by
      intro hm
      obtain ⟨p, hp, e⟩ := List.mem_map.1 hm
      exact dropP_not p hp e
    simp only [seqP, List.map_append, List.map_cons, List.map_nil]
    grind
theorem dropP_len {k : ByteArray} {ps : List P9} (hn : (ps.map (·.1)).Nodup) : ps.length ≤ (dropP k ps).length + 1 ∧ (dropP k ps).length ≤ ps.length := by
  refine ⟨?_, List.length_filter_le _ _⟩
  rcases split_pair hn k with ⟨_, e⟩ | ⟨l1, p, l2, rfl, _, _, e⟩
  · rw [e]; omega
  · rw [e]; simp <;> omega
theorem seqP_step (ss : Nat → ByteArray) (k : Nat) : (seqP ss k).length ≤ (seqP ss (k + 1)).length ∧ (seqP ss (k + 1)).length = (dropP (ss k) (seqP ss k)).length + 1 := by
  have h := dropP_len (k := ss k) (seqP_keys ss k)
  have e : (seqP ss (k + 1)).length = (dropP (ss k) (seqP ss k)).length + 1 := by simp [seqP]
  exact ⟨by omega, e⟩
theorem seqP_len (ss : Nat → ByteArray) : ∀ k, (seqP ss k).length ≤ k
  | 0 => by simp [seqP]
  | k + 1 => by
    have h := seqP_len ss k
    have h1 := dropP_len (k := ss k) (seqP_keys ss k)
    have h2 := (seqP_step ss k).2
    omega
theorem seqP_mono (ss : Nat → ByteArray) {k m : Nat} (h : k ≤ m) : (seqP ss k).length ≤ (seqP ss m).length := by
  induction m with
  | zero => rw [show k = 0 by omega]; omega
  | succ m ih =>
    by_cases e : k = m + 1
    · rw [e]; omega
    · have h1 := ih (by omega)
      have h2 := (seqP_step ss m).1
      omega
theorem seqP_put (ss : Nat → ByteArray) {k : Nat} {M : Int} (h : ((seqP ss (k + 1)).length : Int) ≤ M) : putP M (ss k) (k : Int) (seqP ss k) = seqP ss (k + 1) := by
  have := (seqP_step ss k).2
  unfold putP
  rw [if_pos (by omega)]
  rfl

set_option maxRecDepth 100000 in
set_option maxHeartbeats 2000000 in
theorem drops_any (a : Option Addr) (n c : Nat) (ss : Nat → ByteArray) (a' : Option Addr) (n' c' : Nat) (ds : Nat → ByteArray) (w : World) (hs : Texts w a n ss) (hn : n ≤ 9223372036854775807) (hs' : Texts w a' n' ds) (hn' : n' ≤ 9223372036854775807) :
    Calls Try.prog 10 #[.slice a n c, .slice a' n' c'] w fun e w' => e = .returned (.bool true) ∧ Kept (fun _ => False) w w' := by
  have HS := Lib.hid hs
  have HD := Lib.hid hs'
  clear hs hs'
  go_enter Try.func10, Try.ntmps10
  go_wp2_with fail
  refine (shown9 w).mono ?_
  rintro e w0 ⟨rfl, k0⟩
  go_wp2_with fail
  refine (ref9_new 100 w0).mono ?_
  rintro e w1 ⟨rfl, hR, k1⟩
  rw [show max (100 : Int) 1 = 100 by omega] at hR
  obtain ⟨br, hbr⟩ : ∃ br, w0.heap.size = br := ⟨_, rfl⟩
  rw [hbr] at hR ⊢
  have K1 : Kept (fun b => w.heap.size ≤ b) w w1 := (k0.trans k1 (fun _ _ e => e)).mono (fun _ _ e => e.elim)
  have hbr0 : w.heap.size ≤ br := by have := k0.size; omega
  have hf1 : ∀ b, Rfp br (.slice none 0 0) b → w.heap.size ≤ b := by
    rintro b (rfl | h)
    · exact hbr0
    · cases h
  clear k0 k1 hbr
  obtain ⟨K, PS, hPS, hK40, hKn⟩ : ∃ (K : Nat) (PS : List P9), PS = seqP ss K ∧ K ≤ 40 ∧ (K = n ∨ (K = 40 ∧ 40 < n)) := by
    by_cases h : n ≤ 40
    · exact ⟨n, _, rfl, h, .inl rfl⟩
    · exact ⟨40, _, rfl, by omega, .inr ⟨rfl, by omega⟩⟩
  have HKN := Lib.hid hKn
  have HPS := Lib.hid hPS
  clear hKn hPS
  go_upto_block 0 with fail
  go_cut [7] from 20 to 36 (fun i wc => ∃ (N : Nat) (sa : Option Addr) (sc : Nat), Ref9 wc br 100 (.slice sa N sc) PS ∧ (∀ b, Rfp br (.slice sa N sc) b → w.heap.size ≤ b) ∧ Kept (fun b => w.heap.size ≤ b) w wc)
  case first =>
    go_wp2_with fail
    go_loopw [7] (fun i wr => ∃ (k : Nat) (sv : Value), k ≤ n ∧ k ≤ 40 ∧ i = .int .i64 k ∧ Ref9 wr br 100 sv (seqP ss k) ∧ (∀ b, Rfp br sv b → w.heap.size ≤ b) ∧ Kept (fun b => w.heap.size ≤ b) w wr) (fun i _ => n - (intOf i).toNat)
    case atStart => exact ⟨0, _, Nat.zero_le _, by omega, rfl, hR, hf1, K1⟩
    case round =>
      obtain ⟨k, sv, hk, hk40, rfl, hr, hf, hkr⟩ := hrel
      clear hR K1 hf1
      by_cases hlt : k < n ∧ k < 40
      · obtain ⟨hlt, h40⟩ := hlt
        obtain ⟨b, o, rfl, hb, hc⟩ := HS.out k hlt
        have hcell : wr.cell? ⟨b, o + k, none⟩ = some (.string (ss k)) := (hkr.cell (p := ⟨b, o + k, none⟩) hb (by simp; omega)).trans hc
        have hlen := seqP_len ss k
        have hlen1 := seqP_len ss (k + 1)
        have hput := seqP_put ss (k := k) (M := 100) (by omega)
        have hkeys := seqP_keys ss k
        clear hc
        go_wp2_with fail
        refine (ref9_put_any hr (by omega) hkeys).mono ?_
        rintro e w2 ⟨rfl, sv2, h2, k2, f2⟩
        rw [hput] at h2
        have HF := Lib.hid (show ∀ b, Rfp br sv2 b → w.heap.size ≤ b from fun b hb => (f2 b hb).elim (hf b) (fun h => Nat.le_trans hkr.size h))
        have HK := Lib.hid (show Kept (fun b => w.heap.size ≤ b) w w2 from hkr.trans k2 (fun b _ e => hf b e))
        clear hput hkeys hlen hlen1 f2 k2 hf hkr hr hcell
        go_wp2_with fail
        go_roundw
        case rel => exact ⟨k + 1, sv2, by omega, by omega, by go_num, h2, HF.out, HK.out⟩
        case measure => simp [intOf]; omega
      · have hkK : k = K := by have := HKN.out; omega
        subst hkK
        have hsp : (k < n ∧ k = 40) ∨ ¬ k < n := by omega
        obtain ⟨sa, sc, hsv, -, -, -⟩ := own_form hr.own
        rw [← HPS.out] at hr hsv
        rcases hsp with ⟨hlt, rfl⟩ | hlt
        all_goals
          go_wp2_with fail
          go_meet
          case rel => exact ⟨_, sa, sc, hsv ▸ hr, hsv ▸ hf, hkr⟩
  case rest =>
    rename World => w2
    obtain ⟨N, sa, sc, hr, hf, hk⟩ := hcut
    have hNP : N = PS.length := by
      obtain ⟨_, _, e, _⟩ := own_form hr.own
      injection e
    have hN40 : N ≤ 40 := by rw [hNP, HPS.out]; have := seqP_len ss K; omega
    have HNP := Lib.hid hNP
    have hsl := hr.sl
    have HR := Lib.hid hr
    have HF := Lib.hid hf
    have HK := Lib.hid hk
    have hwc := hk.size
    clear hr hf hk hNP hR K1 hf1 hbr0
    go_upto_region 7 with fail
    go_cut [8] from 37 to 43 (fun l w3 => ∃ (bl bm : Nat) (M : Int), l = .pointer (some ⟨bl, 0, none⟩) ∧ SI.L w3 bl bm M [] ∧ (N : Int) ≤ M ∧ 1 ≤ M ∧ w2.heap.size ≤ bl ∧ w2.heap.size ≤ bm ∧ Kept (fun b => w2.heap.size ≤ b) w2 w3)
    case first =>
      by_cases h1N : 1 < N
      case' pos => have h1N' : (1 : Int) < (N : Int) := by omega
      case' neg => have h1N' : ¬ ((1 : Int) < (N : Int)) := by omega
      all_goals
        go_wp2_with fail
        refine (SI.new_own _ _).mono ?_
        rintro e w3 ⟨bl, bm, rfl, hL, k3, gl, gm⟩
        have HL := Lib.hid (show ∃ M : Int, SI.L w3 bl bm M [] ∧ (N : Int) ≤ M ∧ 1 ≤ M from ⟨_, hL, by omega, by omega⟩)
        clear hL
        go_wp2_with fail
        go_meet
        case rel =>
          obtain ⟨M, h1, h2, h3⟩ := HL.out
          exact ⟨bl, bm, M, rfl, h1, h2, h3, gl, gm, k3⟩
    case rest =>
      rename World => w3
      obtain ⟨bl, bm, M, rfl, hL, hNM, hM1, gl, gm, k3⟩ := hcut
      go_upto_block 2 with fail
      go_cut [9] from 46 to 62 (fun i w4 => ∃ xs : List (Ent ByteArray Int), SI.L w4 bl bm M xs ∧ prs xs = PS ∧ (∀ b, Lfp bl bm xs b → w2.heap.size ≤ b) ∧ Kept (fun b => w2.heap.size ≤ b) w2 w4)
      case first =>
        go_wp2_with fail
        go_loopw [9] (fun i wr => ∃ (k : Nat) (xs : List (Ent ByteArray Int)), k ≤ K ∧ i = .int .i64 k ∧ SI.L wr bl bm M xs ∧ prs xs = seqP ss k ∧ (∀ b, Lfp bl bm xs b → w2.heap.size ≤ b) ∧ Kept (fun b => w2.heap.size ≤ b) w2 wr) (fun i _ => n - (intOf i).toNat)
        case atStart => exact ⟨0, [], Nat.zero_le _, rfl, hL, rfl, fp_nil gl gm, k3⟩
        case round =>
          obtain ⟨k, xs, hkK, rfl, hx, hps, hge, hkr⟩ := hrel
          have HPX := Lib.hid hps
          clear hL k3 hps
          by_cases hlt : k < K
          · have hkn : k < n ∧ k < 40 := by have := HKN.out; omega
            obtain ⟨hkn, hk40⟩ := hkn
            obtain ⟨b, o, rfl, hb, hc⟩ := HS.out k hkn
            have hcell : wr.cell? ⟨b, o + k, none⟩ = some (.string (ss k)) := (hkr.cell (p := ⟨b, o + k, none⟩) (Nat.lt_of_lt_of_le hb hwc) (by simp; omega)).trans ((HK.out.cell (p := ⟨b, o + k, none⟩) hb (by simp; omega)).trans hc)
            have hlen1 : ((seqP ss (k + 1)).length : Int) ≤ M := by
              have h1 := seqP_mono ss (k := k + 1) (m := K) (by omega)
              have h2 := HNP.out
              rw [HPS.out] at h2
              omega
            have hlx : (xs.length : Int) ≤ M := by
              have h1 := (seqP_step ss k).1
              have h2 := congrArg List.length HPX.out
              rw [prs_len] at h2
              omega
            have hput := (prs_put (most := M) (nb := wr.heap.size) (k := ss k) (v := (k : Int)) hx.keys hlx hM1).1
            rw [HPX.out, seqP_put ss hlen1] at hput
            have HPUT := Lib.hid hput
            clear hput hlen1 hlx hc
            go_wp2_with fail
            refine (SI.put_any hx hM1).mono ?_
            rintro e w5 ⟨rfl, h5, k5, z5⟩
            have HK5 := Lib.hid (hkr.own k5 hge)
            have HG5 := Lib.hid (fp_ge_put (most := M) (nb := wr.heap.size) (k := ss k) (v := (k : Int)) hge hkr.size)
            clear hx k5 z5 hge hkr hcell
            go_wp2_with fail
            go_roundw
            case rel => exact ⟨k + 1, _, by omega, by go_num, h5, HPUT.out.symm, HG5.out, HK5.out⟩
            case measure => simp [intOf]; omega
          · obtain rfl : k = K := by omega
            have hsp : (k < n ∧ k = 40) ∨ ¬ k < n := by have := HKN.out; omega
            rw [← HPS.out] at HPX
            rcases hsp with ⟨hlt, rfl⟩ | hlt
            all_goals
              go_wp2_with fail
              go_meet
              case rel => exact ⟨xs, hx, HPX.out, hge, hkr⟩
      case rest =>
        rename World => w4
        obtain ⟨xs0, hx0, hpx0, hge0, hk0⟩ := hcut
        have hR0 : Ref9 w4 br 100 (.slice sa N sc) (prs xs0) := by rw [hpx0]; exact HR.out.kept hk0 (fun b hb e => by have := HR.out.lt b hb; omega)
        have hdis0 : ∀ b, Rfp br (.slice sa N sc) b → ¬ Lfp bl bm xs0 b := fun b hb hl => by have := HR.out.lt b hb; have := hge0 b hl; omega
        have hl0 : (xs0.length : Int) ≤ M := by have h1 := congrArg List.length hpx0; rw [prs_len] at h1; have := HNP.out; omega
        have hB0 : Both w4 bl bm br M 100 (.slice sa N sc) xs0 := ⟨hx0, hR0, hdis0, hl0⟩
        have hfp0 : ∀ b, Bfp bl bm br (.slice sa N sc) xs0 b → w.heap.size ≤ b := fun b hb => hb.elim (fun h => Nat.le_trans hwc (hge0 b h)) (HF.out b)
        have hkk0 : Kept (fun b => w.heap.size ≤ b) w w4 := HK.out.trans hk0 (fun b hb e => Nat.le_trans hwc e)
        have hN0 : xs0.length ≤ 40 := by have h1 := congrArg List.length hpx0; rw [prs_len] at h1; have := HNP.out; omega
        clear hx0 hpx0 hge0 hk0 hR0 hdis0 hl0 hL k3 hNM
        go_upto_block 4 with fail
        go_cut [10, 11, 12, 13, 14] from 63 to 114 (fun go i5 i6 i7 i8 w5 => ∃ (g : Nat) (xs : List (Ent ByteArray Int)) (sv : Value), go = .int .i64 g ∧ Both w5 bl bm br M 100 sv xs ∧ (xs.length : Int) + g ≤ M ∧ xs.length ≤ 40 ∧ g ≤ 40 ∧ (∀ b, Bfp bl bm br sv xs b → w.heap.size ≤ b) ∧ Kept (fun b => w.heap.size ≤ b) w w5)
        case first =>
          go_wp2_with fail
          go_loopw [10, 11, 12, 13, 14] (fun go i i6 i7 i8 wr => ∃ (k g : Nat) (xs : List (Ent ByteArray Int)) (sv : Value), k ≤ n' ∧ k ≤ 40 ∧ i = .int .i64 k ∧ go = .int .i64 g ∧ g ≤ k ∧ Both wr bl bm br M 100 sv xs ∧ (xs.length : Int) + g ≤ M ∧ xs.length ≤ 40 ∧ (∀ b, Bfp bl bm br sv xs b → w.heap.size ≤ b) ∧ Kept (fun b => w.heap.size ≤ b) w wr) (fun go i i6 i7 i8 _ => n' - (intOf i).toNat)
          case atStart => exact ⟨0, 0, xs0, _, Nat.zero_le _, by omega, rfl, rfl, by omega, hB0, by have := hB0.len; omega, hN0, hfp0, hkk0⟩
          case round =>
            obtain ⟨k, g, xs, sv, hk, hk40, rfl, rfl, hgk, hB, hMg, hx40, hfp, hkr⟩ := hrel
            clear hB0 hfp0 hkk0
            have HFX := Lib.hid hfp
            have HKR := Lib.hid hkr
            by_cases hlt : k < n' ∧ k < 40
            · obtain ⟨hlt, h40⟩ := hlt
              obtain ⟨b, o, rfl, hb, hc⟩ := HD.out k hlt
              have hcell : wr.cell? ⟨b, o + k, none⟩ = some (.string (ds k)) := (hkr.cell (p := ⟨b, o + k, none⟩) hb (by simp; omega)).trans hc
              generalize ds k = key at hcell
              clear hc hfp hkr
              rcases split_key hB.l.keys key with ⟨_, e2, e3⟩ | ⟨l1, x, l2, rfl, rfl, _, e3⟩
              · have hm : ∀ p ∈ prs xs, p.1 ≠ key := by
                  intro p hp
                  obtain ⟨x, hx, rfl⟩ := List.mem_map.1 hp
                  exact e2 x hx
                have hlp : (prs xs).length ≤ 999 := by rw [prs_len]; omega
                go_wp2_with fail
                refine (ref9_find_miss hB.r (by omega) hm).mono ?_
                rintro e w5 ⟨rfl, rfl⟩
                go_wp2_with fail
                refine (SI.drop_miss hB.l e2).mono ?_
                rintro e w5 ⟨rfl, rfl⟩
                go_wp2_with fail
                refine (ref9_drop_miss hB.r (by omega) hm).mono ?_
                rintro e w5 ⟨rfl, rfl⟩
                go_wp2_with fail
                refine (SI.peek_miss hB.l e2).mono ?_
                rintro e w5 ⟨rfl, rfl⟩
                go_wp2_with fail
                refine (SI.touch_miss hB.l e2).mono ?_
                rintro e w5 ⟨rfl, rfl⟩
                go_wp2_with fail
                go_roundw
                case rel => exact ⟨k + 1, g, xs, sv, by omega, by omega, by go_num, rfl, by omega, hB, hMg, hx40, HFX.out, HKR.out⟩
                case measure => simp [intOf]; omega
              · have hlp : (prs (l1 ++ x :: l2)).length ≤ 999 := by rw [prs_len]; omega
                have hsp2 : prs (l1 ++ x :: l2) = prs l1 ++ (x.k, x.v) :: prs l2 := by simp [prs]
                have hkx : ∀ q ∈ prs l1, q.1 ≠ (x.k, x.v).1 := by
                  intro q hq
                  obtain ⟨y, hy, rfl⟩ := List.mem_map.1 hq
                  have hnd := hB.l.keys
                  simp only [List.map_append, List.map_cons] at hnd
                  have : y.k ∈ l1.map (·.k) := List.mem_map_of_mem hy
                  show y.k ≠ x.k
                  grind
                have hmiss : ∀ y ∈ l1 ++ l2, y.k ≠ x.k := by
                  intro y hy
                  have hnd := hB.l.keys
                  simp only [List.map_append, List.map_cons] at hnd
                  have : y.k ∈ l1.map (·.k) ∨ y.k ∈ l2.map (·.k) := (List.mem_append.1 hy).imp List.mem_map_of_mem List.mem_map_of_mem
                  grind
                have hll : (l1 ++ x :: l2).length = (l1 ++ l2).length + 1 := by simp <;> omega
                have hR := hB.r
                rw [hsp2] at hR hlp
                have HMI := Lib.hid hmiss
                have HKX := Lib.hid hkx
                have HLL := Lib.hid hll
                clear hmiss hkx hll hsp2 e3
                go_wp2_with fail
                refine (ref9_find_hit (x := (x.k, x.v)) hR (by omega) HKX.out).mono ?_
                rintro e w5 ⟨rfl, rfl⟩
                go_wp2_with fail
                refine (SI.drop_hit hB.l).mono ?_
                rintro e w5 ⟨rfl, h5, k5, z5⟩
                have hR5 := hR.kept k5 (fun b hb hl => hB.dis b hb hl)
                have hcell5 : w5.cell? ⟨b, o + k, none⟩ = some (.string x.k) := (k5.cell (p := ⟨b, o + k, none⟩) (Nat.lt_of_lt_of_le hb HKR.out.size) (fun e => by have := HFX.out b (.inl e); omega)).trans hcell
                have H5 := Lib.hid h5
                have K5 := Lib.hid k5
                clear h5 k5 z5
                go_wp2_with fail
                refine (ref9_drop_hit (p := (x.k, x.v)) hR5 (by omega) HKX.out).mono ?_
                rintro e w6 ⟨sv6, rfl, h6, k6, f6⟩
                have h6' : Ref9 w6 br 100 sv6 (prs (l1 ++ l2)) := by simpa [prs] using h6
                obtain ⟨hB6, kB6, fB6⟩ := hB.step H5.out K5.out (fun b hb => .inl (by
                  rcases hb with h | h | ⟨y, hy, h⟩
                  · exact .inl h
                  · exact .inr (.inl h)
                  · exact .inr (.inr ⟨y, by simp only [List.mem_append, List.mem_cons] at hy ⊢; grind, h⟩))) h6' (k6.mono (fun _ _ e => .inl e)) (fun b hb => hb.elim (fun e => .inl (.inl e)) (fun e => .inr (f6 b e))) (by have := HLL.out; have := hB.len; omega)
                have hcell6 : w6.cell? ⟨b, o + k, none⟩ = some (.string x.k) := (k6.cell (p := ⟨b, o + k, none⟩) (Nat.lt_of_lt_of_le (Nat.lt_of_lt_of_le hb HKR.out.size) K5.out.size) (fun e => by have := HFX.out b (.inr (.inl e)); omega)).trans hcell5
                have HK6 := Lib.hid (show Kept (fun b => w.heap.size ≤ b) w w6 from HKR.out.trans kB6 (fun b _ e => HFX.out b e))
                have HF6 := Lib.hid (show ∀ b, Bfp bl bm br sv6 (l1 ++ l2) b → w.heap.size ≤ b from fun b hb => (fB6 b hb).elim (HFX.out b) (fun h => Nat.le_trans HKR.out.size h))
                clear kB6 fB6 h6 h6' k6 f6 hR5 hR hB hcell hcell5
                go_wp2_with fail
                refine (SI.peek_miss hB6.l HMI.out).mono ?_
                rintro e w7 ⟨rfl, rfl⟩
                go_wp2_with fail
                refine (SI.touch_miss hB6.l HMI.out).mono ?_
                rintro e w7 ⟨rfl, rfl⟩
                go_wp2_with fail
                go_roundw
                case rel => exact ⟨k + 1, g + 1, l1 ++ l2, sv6, by omega, by omega, by go_num, by go_num, by omega, hB6, by have := HLL.out; omega, by have := HLL.out; omega, HF6.out, HK6.out⟩
                case measure => simp [intOf]; omega
            · have hsp : (k < n' ∧ k = 40) ∨ ¬ k < n' := by omega
              rcases hsp with ⟨hlt, rfl⟩ | hlt
              all_goals
                go_wp2_with fail
                go_meet
                case rel => exact ⟨g, xs, sv, rfl, hB, hMg, hx40, by omega, HFX.out, HKR.out⟩
        case rest =>
          rename World => w5
          obtain ⟨g, xs, sv, rfl, hB, hMg, hx40, hg40, hfp, hk⟩ := hcut
          clear hB0 hfp0 hkk0
          have HFX := Lib.hid hfp
          have HKR := Lib.hid hk
          clear hfp hk
          go_wp2_with fail
          refine (same_any hB.l hB.r hB.dis (by omega)).mono ?_
          rintro e w6 ⟨rfl, k6, r6⟩
          have hL6 := hB.l.kept k6 (fun b hb hr => hB.dis b hr hb)
          have hge6 : ∀ b, Lfp bl bm xs b → w.heap.size ≤ b := fun b hb => HFX.out b (.inl hb)
          have hk6 : Kept (fun b => w.heap.size ≤ b) w w6 := HKR.out.trans k6 (fun b _ e => HFX.out b (.inr e))
          clear k6 r6 hB
          go_wp2_with fail
          go_loopw [15, 16, 17] (fun i i6 i7 wr => ∃ (k : Nat) (xs : List (Ent ByteArray Int)), k ≤ g ∧ i = .int .i64 k ∧ SI.L wr bl bm M xs ∧ (xs.length : Int) + (g - k : Int) ≤ M ∧ (∀ b, Lfp bl bm xs b → w.heap.size ≤ b) ∧ Kept (fun b => w.heap.size ≤ b) w wr) (fun i i6 i7 _ => g - (intOf i).toNat)
          case atStart => exact ⟨0, xs, Nat.zero_le _, rfl, hL6, by omega, hge6, hk6⟩
          case round =>
            obtain ⟨k, xs, hkg, rfl, hx, hMk, hge, hkr⟩ := hrel
            clear hL6 hge6 hk6 hMg
            have HGE := Lib.hid hge
            have HKR := Lib.hid hkr
            clear hge hkr
            by_cases hlt : k < g
            · have hrow : (wr.alloc (.cells #[.int .u8 (k : Int), .int .u8 7, .int .u8 (k : Int)] 5)).heap[wr.heap.size]? = some (.cells #[.int .u8 (k : Int), .int .u8 7, .int .u8 (k : Int)] 5) := heap_alloc_new wr _
              have hcv := run_convert_bytes_arg (P := Try.prog) (wr.alloc (.cells #[.int .u8 (k : Int), .int .u8 7, .int .u8 (k : Int)] 5)) 39 5 Try.underlying39 Try.underlying5 wr.heap.size 0 3 3 [(k : Int), 7, (k : Int)] rfl (by
                intro i hi
                simp only [World.cell?, hrow, Nat.zero_add]
                rcases (by omega : i = 0 ∨ i = 1 ∨ i = 2) with rfl | rfl | rfl <;> rfl) 9 Try.underlying9
              have hks : (strOfNums [(k : Int), 7, (k : Int)]).size = 3 := by simp [strOfNums, ByteArray.size]
              generalize strOfNums [(k : Int), 7, (k : Int)] = key at hcv hks
              have hx1 := hx.kept (Kept.one_alloc wr (.cells #[.int .u8 (k : Int), .int .u8 7, .int .u8 (k : Int)] 5)) (fun _ _ e => e)
              clear hrow
              go_wp2_with fail
              generalize hw1 : wr.alloc (.cells #[.int .u8 (k : Int), .int .u8 7, .int .u8 (k : Int)] 5) = w7 at *
              have kw7 : Kept (fun _ => False) wr w7 := by rw [← hw1]; exact Kept.one_alloc wr _
              have hlk : lookE (κ := ByteArray) (ν := Int) = lookE := rfl
              refine (SI.put_any hx1 hM1).mono ?_
              rintro e w8 ⟨rfl, h8, k8, z8⟩
              have hroom : ((xs.length : Nat) : Int) + 1 ≤ M := by omega
              rw [outE_room hroom]
              have hl8 := putE_len M w7.heap.size (⟨#[97, 32, 107, 101, 121, 32, 116, 104, 97, 116, 32, 105, 115, 32, 110, 101, 119, 58, 32]⟩ ++ key) (k : Int) xs
              have HK8 := Lib.hid (show Kept (fun b => w.heap.size ≤ b) w w8 from (HKR.out.trans kw7 (fun _ _ e => e.elim)).own k8 HGE.out)
              have HG8 := Lib.hid (fp_ge_put (most := M) (nb := w7.heap.size) (k := (⟨#[97, 32, 107, 101, 121, 32, 116, 104, 97, 116, 32, 105, 115, 32, 110, 101, 119, 58, 32]⟩ ++ key : ByteArray)) (v := (k : Int)) HGE.out (Nat.le_trans HKR.out.size kw7.size))
              have H8 := Lib.hid h8
              clear h8 k8 z8 hx1 hcv hx hlk hw1
              simp only [SI.kv, Option.isSome_none]
              go_wp2_with fail
              go_roundw
              case rel => exact ⟨k + 1, _, by omega, by go_num, H8.out, by omega, fun b hb => HG8.out b hb, HK8.out⟩
              case measure => simp [intOf]; omega
            · go_wp2_with fail
              go_ret
              exact ⟨rfl, HKR.out.none⟩
end Go.Proofs.Yteiilokhkpaoeaa
