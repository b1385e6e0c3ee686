/- LruPlays, walked: for any most, any steps, it answers true. -/
import Derived.Test.YteiilokhkpaoeaaSame9
import Derived.Test.YteiilokhkpaoeaaGet9
import Derived.Test.YteiilokhkpaoeaaShown9
import Derived.Test.YteiilokhkpaoeaaSteps
import Derived.Deep.CutBlock
namespace Go.Proofs.Yteiilokhkpaoeaa
set_option linter.unusedVariables false
set_option linter.unusedSimpArgs false
open Go.RowKit Go.MapKept

section
variable {w w1 w2 : World} {bl bm br : Nat} {most most' : Int} {sv sv' : Value} {xs xs' : List (Ent ByteArray Int)}
/-- A step on the document's list, and then on the other. -/
theorem Both.step2 (h : Both w bl bm br most most' sv xs) (r1 : Ref9 w1 br most' sv' (prs xs')) (k1 : Kept (Rfp br sv) w w1) (f1 : ∀ b, Rfp br sv' b → Rfp br sv b ∨ w.heap.size ≤ b)
    (h2 : SI.L w2 bl bm most xs') (k2 : Kept (Lfp bl bm xs) w1 w2) (f2 : ∀ b, Lfp bl bm xs' b → Lfp bl bm xs b ∨ w1.heap.size ≤ b) (hl : (xs'.length : Int) ≤ most) :
    Both w2 bl bm br most most' sv' xs' ∧ Kept (Bfp bl bm br sv xs) w w2 ∧ (∀ b, Bfp bl bm br sv' xs' b → Bfp bl bm br sv xs b ∨ w.heap.size ≤ b) := by
  have hs := k1.size
  refine ⟨⟨h2, r1.kept k2 (fun b hb hL => ?_), fun b hb hL => ?_, hl⟩, (k1.mono (fun _ _ e => .inr e)).trans k2 (fun b _ e => .inl e), fun b hb => ?_⟩
  · rcases f1 b hb with e | e
    · exact h.dis b e hL
    · have := h.l.lt b hL; omega
  · rcases f2 b hL with e | e
    · rcases f1 b hb with e' | e'
      · exact h.dis b e' e
      · have := h.l.lt b e; omega
    · have := r1.lt b hb; omega
  · rcases hb with hb | hb
    · exact (f2 b hb).imp .inl (fun e => by omega)
    · exact (f1 b hb).imp .inr id
end

set_option maxRecDepth 100000 in
set_option maxHeartbeats 4000000 in
theorem plays_any (most : Int) (a : Option Addr) (n c : Nat) (kd vs : Nat → Int) (ss : Nat → ByteArray) (w : World) (hs : Steps3 w a n kd vs ss) (hn : n ≤ 9223372036854775807) :
    Calls Try.prog 9 #[.int .i64 most, .slice a n c] w fun e w' => e = .returned (.bool true) ∧ Kept (fun _ => False) w w' := by
  have HS := Lib.hid hs
  clear hs
  go_enter Try.func9, Try.ntmps9
  go_wp2_with fail
  refine (shown9 w).mono ?_
  rintro e w0 ⟨rfl, k0⟩
  go_upto_region 3 with fail
  go_cut [0, 6] from 26 to 29 (fun m l w1 => ∃ (m0 M : Int) (bl bm : Nat), m = .int .i64 m0 ∧ max m0 1 = M ∧ 1 ≤ M ∧ M ≤ 50 ∧ l = .pointer (some ⟨bl, 0, none⟩) ∧ SI.L w1 bl bm M [] ∧ Kept (fun b => w.heap.size ≤ b) w w1 ∧ w.heap.size ≤ bl ∧ w.heap.size ≤ bm)
  case first =>
    have fin : ∀ m0 : Int, m0 ≤ 50 → Calls Try.prog 25 #[.int .i64 m0] w0 fun e w1 => ∃ (M : Int) (bl bm : Nat), e = .returned (.pointer (some ⟨bl, 0, none⟩)) ∧ max m0 1 = M ∧ 1 ≤ M ∧ M ≤ 50 ∧ SI.L w1 bl bm M [] ∧ Kept (fun b => w.heap.size ≤ b) w w1 ∧ w.heap.size ≤ bl ∧ w.heap.size ≤ bm := by
      intro m0 hm
      refine (SI.new_own m0 w0).mono ?_
      rintro e w1 ⟨bl, bm, rfl, hL, k1, gl, gm⟩
      have := k0.size
      exact ⟨_, bl, bm, rfl, rfl, by omega, by omega, hL, (k0.mono (fun _ _ e => e.elim)).trans k1 (fun b hb e => by omega), by omega, by omega⟩
    have FIN := Lib.hid fin
    clear fin k0
    go_wp2_with fail
    case inl =>
      refine (FIN.out 50 (by omega)).mono ?_
      rintro e w1 ⟨M, bl, bm, rfl, hM, h1, h2, h3, h4, h5, h6⟩
      have HM := Lib.hid hM
      clear hM
      go_wp2_with fail
      go_meet
      case rel => exact ⟨50, M, bl, bm, rfl, HM.out, h1, h2, rfl, h3, h4, h5, h6⟩
    case inr =>
      rename_i hh
      refine (FIN.out most (by omega)).mono ?_
      rintro e w1 ⟨M, bl, bm, rfl, hM, h1, h2, h3, h4, h5, h6⟩
      have HM := Lib.hid hM
      clear hM
      go_wp2_with fail
      go_meet
      case rel => exact ⟨most, M, bl, bm, rfl, HM.out, h1, h2, rfl, h3, h4, h5, h6⟩
  case rest =>
    rename World => w1
    obtain ⟨m0, M, bl, bm, rfl, hM, hM1, hM50, rfl, hL, k1, gl, gm⟩ := hcut
    have HM := Lib.hid hM
    clear hM k0
    go_wp2_with fail
    refine (ref9_new m0 w1).mono ?_
    rintro e w2 ⟨rfl, hR, k2⟩
    rw [HM.out] at hR
    obtain ⟨br, hbr⟩ : ∃ br, w1.heap.size = br := ⟨_, rfl⟩
    rw [hbr] at hR ⊢
    have hB : Both w2 bl bm br M M (.slice none 0 0) [] := by
      refine ⟨hL.kept k2 (fun _ _ e => e), hR, ?_, by simp <;> omega⟩
      rintro b (rfl | h) hl
      · have := hL.lt b hl; omega
      · cases h
    have hfp : ∀ b, Bfp bl bm br (.slice none 0 0) ([] : List (Ent ByteArray Int)) b → w.heap.size ≤ b := by
      have := k1.size
      rintro b (h | (h | h))
      · exact fp_nil gl gm b h
      · omega
      · cases h
    have hk : Kept (fun b => w.heap.size ≤ b) w w2 := k1.trans k2 (fun _ _ e => e.elim)
    clear k1 k2 hL hR gl gm hbr
    go_wp2_with fail
    refine (same_any hB.l hB.r hB.dis (by simp)).mono ?_
    rintro e w3 ⟨rfl, k3, r3⟩
    have hB3 : Both w3 bl bm br M M (.slice none 0 0) [] := ⟨hB.l.kept k3 (fun b hb hr => hB.dis b hr hb), r3, hB.dis, hB.len⟩
    have hk3 : Kept (fun b => w.heap.size ≤ b) w w3 := hk.trans k3 (fun b _ e => hfp b (.inr e))
    clear k3 r3 hB hk
    go_wp2_with fail
    go_loopw [8] (fun i wr => ∃ (k : Nat) (xs : List (Ent ByteArray Int)) (sv : Value), k ≤ n ∧ k ≤ 100 ∧ i = .int .i64 k ∧ Both wr bl bm br M M sv xs ∧ (∀ b, Bfp bl bm br sv xs b → w.heap.size ≤ b) ∧ Kept (fun b => w.heap.size ≤ b) w wr) (fun i _ => n - (intOf i).toNat)
    case atStart => exact ⟨0, [], _, Nat.zero_le _, by omega, rfl, hB3, hfp, hk3⟩
    case round =>
      obtain ⟨k, xs, sv, hk, hk100, rfl, hB, hfp, hkr⟩ := hrel
      clear hB3 hk3
      have HFX := Lib.hid hfp
      have HKR := Lib.hid hkr
      by_cases hlt : k < n ∧ k < 100
      · obtain ⟨hlt, h100⟩ := hlt
        obtain ⟨b, o, rfl, hb, hc0, hc1, hc2, hsz⟩ := HS.out k hlt
        have hd0 : wr.cell? ⟨b, o + k * 3, none⟩ = some (.int .i64 (kd k)) := (hkr.cell (p := ⟨b, o + k * 3, none⟩) hb (by simp; omega)).trans hc0
        have hd1 : wr.cell? ⟨b, o + k * 3 + 1, none⟩ = some (.string (ss k)) := (hkr.cell (p := ⟨b, o + k * 3 + 1, none⟩) hb (by simp; omega)).trans hc1
        have hd2 : wr.cell? ⟨b, o + k * 3 + 2, none⟩ = some (.int .i64 (vs k)) := (hkr.cell (p := ⟨b, o + k * 3 + 2, none⟩) hb (by simp; omega)).trans hc2
        generalize ss k = key0 at hd1 hsz
        generalize kd k = kind at hd0
        generalize vs k = val at hd2
        clear hc0 hc1 hc2 hfp hkr
        have hd100 : decide ((k : Int) < 100) = true := by simp; omega
        go_upto_region 12 with fail
        generalize (if (10 : Int) < ((key0.size : Nat) : Int) then (10 : Int) else ((key0.size : Nat) : Int)) = z
        generalize key0.extract 0 z.toNat = key
        generalize hwc : wr.alloc (.cells #[.int .i64 kind, .string key0, .int .i64 val] 69) = wc
        have kc : Kept (fun _ => False) wr wc := by rw [← hwc]; exact Kept.one_alloc wr _
        have hs0 : wc.cell? ⟨wr.heap.size, 0, none⟩ = some (.int .i64 kind) := by rw [← hwc]; simp
        have hs2 : wc.cell? ⟨wr.heap.size, 2, none⟩ = some (.int .i64 val) := by rw [← hwc]; simp
        have hsl : wr.heap.size < wc.heap.size := by rw [← hwc]; simp
        have hBc := hB.kept kc (fun _ _ e => e)
        have hKc := Lib.hid (HKR.out.trans kc (fun _ _ e => e.elim))
        have hsb : ∀ b, Bfp bl bm br sv xs b → b ≠ wr.heap.size := fun b hb e => by have := hB.lt b hb; omega
        have HSB := Lib.hid hsb
        generalize wr.heap.size = sb at *
        clear hwc hB kc hd0 hd1 hd2 HKR hsb
        go_upto_block 2 with fail

        go_cut [11, 12, 13, 14, 15, 16, 17, 18, 19, 20, 21, 22, 23, 24] from 61 to 170 (fun ok s12 s13 s14 s15 s16 s17 s18 s19 s20 s21 s22 s23 s24 w5 => ok = .bool true ∧ ∃ (xs : List (Ent ByteArray Int)) (sv : Value), Both w5 bl bm br M M sv xs ∧ (∀ b, Bfp bl bm br sv xs b → w.heap.size ≤ b) ∧ Kept (fun b => w.heap.size ≤ b) w w5)
        case first =>
          have hl : (xs.length : Int) ≤ M := hBc.len
          have hkeys := hBc.keys
          have HKY := Lib.hid hkeys
          have hfx : ∀ b, Bfp bl bm br sv xs b → w.heap.size ≤ b := HFX.out
          have HFX := Lib.hid hfx
          have hw : w.heap.size ≤ wc.heap.size := hKc.out.size
          clear hkeys hfx
          by_cases h1 : kind = 1
          · subst h1
            go_wp2_with fail
            refine (SI.put_any hBc.l hM1).mono ?_
            rintro e w5 ⟨rfl, h5, k5, z5⟩
            have hR5 := hBc.ref1 k5
            have hs5 : w5.cell? ⟨sb, 2, none⟩ = some (.int .i64 val) := (k5.cell (p := ⟨sb, 2, none⟩) hsl (fun e => HSB.out sb (.inl e) rfl)).trans hs2
            obtain ⟨hp1, hp2, hp3⟩ := prs_put (most := M) (nb := wc.heap.size) (k := key) (v := val) hBc.l.keys hBc.len hM1
            have H5 := Lib.hid h5
            have K5 := Lib.hid k5
            have HP1 := Lib.hid hp1
            have HP2 := Lib.hid hp2
            clear h5 k5 hp1 hp2 hs0
            go_wp2_with fail
            refine (ref9_put_any hR5 (by rw [prs_len]; omega) HKY.out).mono ?_
            rintro e w6 ⟨rfl, sv6, h6, k6, f6⟩
            rw [HP1.out] at h6
            rw [HP2.out]
            obtain ⟨hB6, kB6, fB6⟩ := hBc.step H5.out K5.out (fun b hb => (fp_put hb).imp id (fun e => by omega)) h6 k6 f6 hp3
            have FIN := Lib.hid (show Both w6 bl bm br M M sv6 (putE M wc.heap.size key val xs) ∧ (∀ b, Bfp bl bm br sv6 (putE M wc.heap.size key val xs) b → w.heap.size ≤ b) ∧ Kept (fun b => w.heap.size ≤ b) w w6 from
              ⟨hB6, fun b hb => (fB6 b hb).elim (HFX.out b) (fun h => by omega), hKc.out.trans kB6 (fun b _ e => HFX.out b e)⟩)
            clear hB6 kB6 fB6 h6 k6 f6 hR5 hs5
            generalize putE M wc.heap.size key val xs = ys at FIN
            cases outE M key xs with
            | none =>
              have hgg := bytes_self ⟨#[]⟩
              simp only [SI.kv, kvP, Option.isSome_none]
              go_wp2_with fail
              go_meet
              case rel => exact ⟨rfl, _, _, FIN.out⟩
            | some g =>
              have hgg := bytes_self g
              simp only [SI.kv, kvP, Option.isSome_some, strK]
              go_wp2_with fail
              go_meet
              case rel => exact ⟨rfl, _, _, FIN.out⟩
          · have hk1 : (kind == 1) = false := beq_eq_false_iff_ne.2 h1
            by_cases h2 : kind = 2
            · subst h2
              go_wp2_with fail
              refine (SI.get_any hBc.l).mono ?_
              rintro e w5 ⟨rfl, h5, k5, z5⟩
              have hR5 := hBc.ref1 k5
              have H5 := Lib.hid h5
              have K5 := Lib.hid k5
              clear h5 k5 z5 hs0 hs2
              go_wp2_with fail
              refine (ref9_get_any hR5 (by rw [prs_len]; omega) HKY.out).mono ?_
              rintro e w6 ⟨rfl, sv6, h6, k6, f6⟩
              rw [prs_get] at h6
              have hul := useE_len (k := key) hBc.l.keys
              obtain ⟨hB6, kB6, fB6⟩ := hBc.step H5.out K5.out (fun b hb => .inl (fp_use hb)) h6 k6 f6 (by omega)
              have FIN := Lib.hid (show Both w6 bl bm br M M sv6 (useE key xs) ∧ (∀ b, Bfp bl bm br sv6 (useE key xs) b → w.heap.size ≤ b) ∧ Kept (fun b => w.heap.size ≤ b) w w6 from
                ⟨hB6, fun b hb => (fB6 b hb).elim (HFX.out b) (fun h => by omega), hKc.out.trans kB6 (fun b _ e => HFX.out b e)⟩)
              clear hB6 kB6 fB6 h6 k6 f6 hR5 hul
              generalize useE key xs = ys at FIN
              rw [prs_look]
              cases lookE key xs with
              | none =>
                simp only [SI.vv, Option.isSome_none, Option.map_none]
                go_wp2_with fail
                go_meet
                case rel => exact ⟨rfl, _, _, FIN.out⟩
              | some x =>
                simp only [SI.vv, Option.isSome_some, Option.map_some, vSI]
                go_wp2_with fail
                go_meet
                case rel => exact ⟨rfl, _, _, FIN.out⟩
            · have hk2 : (kind == 2) = false := beq_eq_false_iff_ne.2 h2
              by_cases h3 : kind = 3
              · subst h3
                have FIN := Lib.hid (show Both wc bl bm br M M sv xs ∧ (∀ b, Bfp bl bm br sv xs b → w.heap.size ≤ b) ∧ Kept (fun b => w.heap.size ≤ b) w wc from ⟨hBc, HFX.out, hKc.out⟩)
                have PEEK := Lib.hid (SI.peek_any (k := key) hBc.l)
                have FIND := Lib.hid (ref9_find_any (k := key) hBc.r (by rw [prs_len]; omega) HKY.out)
                have hpl := prs_look key xs
                cases hlk : lookE key xs with
                | none =>
                  rw [hlk] at PEEK hpl
                  rw [hpl] at FIND
                  simp only [Option.isSome_none, SI.vv] at PEEK
                  clear hlk hpl hBc hs0 hs2
                  go_wp2_with fail
                  refine PEEK.out.mono ?_
                  rintro e w5 ⟨rfl, rfl⟩
                  go_wp2_with fail
                  refine FIND.out.mono ?_
                  rintro e w5 ⟨⟨i, rfl, hi⟩, rfl⟩
                  obtain rfl : i = -1 := by
                    rcases hi with ⟨_, h⟩ | ⟨_, _, _, _, _, h, _⟩
                    · exact h
                    · simp at h
                  clear hi
                  go_wp2_with fail
                  go_meet
                  case rel => exact ⟨rfl, _, _, FIN.out⟩
                | some x =>
                  rw [hlk] at PEEK hpl
                  rw [hpl] at FIND
                  simp only [Option.isSome_some, SI.vv, vSI] at PEEK
                  clear hlk hpl hs0 hs2
                  go_wp2_with fail
                  refine PEEK.out.mono ?_
                  rintro e w5 ⟨rfl, rfl⟩
                  go_wp2_with fail
                  refine FIND.out.mono ?_
                  rintro e w5 ⟨⟨i, rfl, hi⟩, rfl⟩
                  obtain ⟨l1, p, l2, hps, rfl, hp, rfl⟩ : ∃ l1 p l2, prs xs = l1 ++ p :: l2 ∧ p.1 = key ∧ p.2 = x.v ∧ i = (l1.length : Int) := by
                    rcases hi with ⟨h, _⟩ | ⟨l1, p, l2, h1, h2, h3, h4⟩
                    · simp at h
                    · simp only [Option.map_some, Option.some.injEq] at h3
                      exact ⟨l1, p, l2, h1, h2, by rw [← h3], h4⟩
                  have hat : (prs xs)[l1.length]? = some p := by rw [hps]; simp
                  obtain ⟨g, c9, rfl, hg0, hg1⟩ := hBc.r.at hat
                  have hrsl := hBc.r.sl
                  have hll : l1.length < (prs xs).length := (List.getElem?_eq_some_iff.1 hat).1
                  rw [hp] at hg1
                  clear hi hps hp hat hBc
                  go_wp2_with fail
                  go_meet
                  case rel => exact ⟨rfl, _, _, FIN.out⟩
              · have hk3 : (kind == 3) = false := beq_eq_false_iff_ne.2 h3
                by_cases h4 : kind = 4
                · subst h4
                  go_wp2_with fail
                  refine (ref9_get_any hBc.r (by rw [prs_len]; omega) HKY.out).mono ?_
                  rintro e w5 ⟨rfl, sv5, h5, k5, f5⟩
                  rw [prs_get] at h5
                  have hL5 := hBc.l.kept k5 (fun b hb hr => hBc.dis b hr hb)
                  have H5 := Lib.hid h5
                  have K5 := Lib.hid k5
                  have F5 := Lib.hid f5
                  clear h5 k5 f5 hs0 hs2
                  rw [prs_look]
                  have hul := useE_len (k := key) hBc.l.keys
                  have TCH := Lib.hid (show Calls Try.prog 37 #[.pointer (some ⟨bl, 0, none⟩), .string key] w5 fun e w6 => e = .returned (.bool (lookE key xs).isSome) ∧ Both w6 bl bm br M M sv5 (useE key xs) ∧ (∀ b, Bfp bl bm br sv5 (useE key xs) b → w.heap.size ≤ b) ∧ Kept (fun b => w.heap.size ≤ b) w w6 by
                    refine (SI.touch_any hL5).mono ?_
                    rintro e w6 ⟨rfl, h6, k6, z6⟩
                    obtain ⟨hB6, kB6, fB6⟩ := hBc.step2 H5.out K5.out F5.out h6 k6 (fun b hb => .inl (fp_use hb)) (by omega)
                    exact ⟨rfl, hB6, fun b hb => (fB6 b hb).elim (HFX.out b) (fun h => by omega), hKc.out.trans kB6 (fun b _ e => HFX.out b e)⟩)
                  clear hL5 hul
                  generalize useE key xs = ys at TCH
                  cases hlk : lookE key xs with
                  | none =>
                    rw [hlk] at TCH
                    simp only [Option.isSome_none, Option.map_none] at TCH ⊢
                    clear hlk
                    go_wp2_with fail
                    refine TCH.out.mono ?_
                    rintro e w6 ⟨rfl, hfin⟩
                    have FIN := Lib.hid hfin
                    clear hfin
                    go_wp2_with fail
                    go_meet
                    case rel => exact ⟨rfl, _, _, FIN.out⟩
                  | some x =>
                    rw [hlk] at TCH
                    simp only [Option.isSome_some, Option.map_some] at TCH ⊢
                    clear hlk
                    go_wp2_with fail
                    refine TCH.out.mono ?_
                    rintro e w6 ⟨rfl, hfin⟩
                    have FIN := Lib.hid hfin
                    clear hfin
                    go_wp2_with fail
                    go_meet
                    case rel => exact ⟨rfl, _, _, FIN.out⟩
                · have hk4 : (kind == 4) = false := beq_eq_false_iff_ne.2 h4
                  by_cases h5 : kind = 5
                  · subst h5
                    go_wp2_with fail
                    refine (SI.drop_any hBc.l).mono ?_
                    rintro e w5 ⟨rfl, h5, k5, z5⟩
                    have hR5 := hBc.ref1 k5
                    have H5 := Lib.hid h5
                    have K5 := Lib.hid k5
                    clear h5 k5 z5 hs0 hs2
                    go_wp2_with fail
                    refine (ref9_drop_any hR5 (by rw [prs_len]; omega) HKY.out).mono ?_
                    rintro e w6 ⟨sv6, rfl, h6, k6, f6⟩
                    rw [prs_drop] at h6
                    have hdl : (dropE key xs).length ≤ xs.length := List.length_filter_le _ _
                    obtain ⟨hB6, kB6, fB6⟩ := hBc.step H5.out K5.out (fun b hb => .inl (fp_drop hb)) h6 k6 f6 (by omega)
                    have FIN := Lib.hid (show Both w6 bl bm br M M sv6 (dropE key xs) ∧ (∀ b, Bfp bl bm br sv6 (dropE key xs) b → w.heap.size ≤ b) ∧ Kept (fun b => w.heap.size ≤ b) w w6 from
                      ⟨hB6, fun b hb => (fB6 b hb).elim (HFX.out b) (fun h => by omega), hKc.out.trans kB6 (fun b _ e => HFX.out b e)⟩)
                    clear hB6 kB6 fB6 h6 k6 f6 hR5 hdl
                    generalize dropE key xs = ys at FIN
                    have hpk : decide (∃ p ∈ prs xs, p.1 = key) = (lookE key xs).isSome := by
                      have h := prs_look key xs
                      cases hlk : lookE key xs with
                      | none =>
                        have hn := lookE_none hlk
                        simp only [Option.isSome_none, decide_eq_false_iff_not]
                        rintro ⟨p, hp, rfl⟩
                        obtain ⟨x, hx, rfl⟩ := List.mem_map.1 hp
                        exact hn x hx rfl
                      | some x =>
                        obtain ⟨hx, rfl⟩ := lookE_some hlk
                        simp only [Option.isSome_some, decide_eq_true_eq]
                        exact ⟨_, List.mem_map_of_mem hx, rfl⟩
                    rw [hpk]
                    clear hpk
                    generalize (lookE key xs).isSome = lk
                    cases lk
                    all_goals
                      go_wp2_with fail
                      go_meet
                      case rel => exact ⟨rfl, _, _, FIN.out⟩
                  · have hk5 : (kind == 5) = false := beq_eq_false_iff_ne.2 h5
                    have FIN := Lib.hid (show Both wc bl bm br M M sv xs ∧ (∀ b, Bfp bl bm br sv xs b → w.heap.size ≤ b) ∧ Kept (fun b => w.heap.size ≤ b) w wc from ⟨hBc, HFX.out, hKc.out⟩)
                    go_wp2_with fail
                    go_meet
                    case rel => exact ⟨rfl, _, _, FIN.out⟩
        case rest =>
          rename World => w5
          obtain ⟨rfl, xs5, sv5, hB5, hfp5, hk5⟩ := hcut
          have hl5 : (xs5.length : Int) ≤ M := hB5.len
          clear hBc hs0 hs2 hsl
          go_wp2_with fail
          refine (same_any hB5.l hB5.r hB5.dis (by omega)).mono ?_
          rintro e w6 ⟨rfl, k6, r6⟩
          have hB6 : Both w6 bl bm br M M sv5 xs5 := ⟨hB5.l.kept k6 (fun b hb hr => hB5.dis b hr hb), r6, hB5.dis, hB5.len⟩
          have hk6 : Kept (fun b => w.heap.size ≤ b) w w6 := hk5.trans k6 (fun b _ e => hfp5 b (.inr e))
          have HF5 := Lib.hid hfp5
          clear k6 r6 hB5 hk5 hfp5
          go_wp2_with fail
          go_roundw
          case rel => exact ⟨k + 1, xs5, sv5, by omega, by omega, by go_num, hB6, HF5.out, hk6⟩
          case measure => simp [intOf]; omega
      · have hsp : (k < n ∧ k = 100) ∨ ¬ k < n := by omega
        rcases hsp with ⟨hlt, rfl⟩ | hlt
        all_goals
          go_wp2_with fail
          go_ret
          exact ⟨rfl, HKR.out.none⟩
end Go.Proofs.Yteiilokhkpaoeaa
