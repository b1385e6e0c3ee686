/- ScanBatches, walked. -/
import Derived.Test.YtjkgimloafpipaaGreatSizesWalk
import Derived.Test.YtjkgimloafpipaaGreatScanD
namespace Go.Proofs.YtjkgimloafpipaaGreat
set_option linter.unusedVariables false
set_option linter.unusedSimpArgs false
open Go.RowKit Go.MapKept Go.Deep

/-- Two tables' pairs that are the same, in whatever order. -/
structure SameP (P P' : List Pr) : Prop where
  perm : P'.Perm P
  nodup : (P'.map (·.1)).Nodup
theorem SameP.pairs {P P' : List Pr} (h : SameP P P') : pairsP P' = pairsP P := pairsP_perm h.perm h.nodup
theorem SameP.use {P P' : List Pr} (h : SameP P P') (m : TM) (k : ByteArray) : SameP P (useP m k P') := ⟨(useP_perm h.nodup m k).trans h.perm, useP_nodup h.nodup k⟩
theorem SameP.len {P P' : List Pr} (h : SameP P P') : P'.length = P.length := h.perm.length_eq
theorem look_mem {P : List Pr} (hn : (P.map (·.1)).Nodup) {p : Pr} (hp : p ∈ P) : lookP p.1 P = some p.2 := by
  induction P with
  | nil => cases hp
  | cons q P ih =>
    unfold lookP
    rw [List.map_cons, List.nodup_cons] at hn
    rcases List.mem_cons.1 hp with rfl | hp
    · simp
    · have hne : q.1 ≠ p.1 := fun e => hn.1 (by rw [e]; exact List.mem_map.2 ⟨p, hp, rfl⟩)
      rw [List.find?_cons_of_neg (by simpa using hne)]
      exact ih hn.2 hp
theorem SameP.look {P P' : List Pr} (h : SameP P P') {p : Pr} (hp : p ∈ pairsP P) : lookP p.1 P' = some p.2 := look_mem h.nodup (h.perm.mem_iff.2 ((sortK_perm P).mem_iff.1 hp))
theorem quo_law {N K i T : Nat} (hK : 1 ≤ K) (hN : N ≤ 1000000) (hT : T = i * K) (hTN : T ≤ N) (hlt : i ≠ 0 → T < N) (hle : N - T ≤ K) : max 0 (wrap64 (((N : Int) - 1).tdiv (K : Int))) = (i : Int) := by
  by_cases h0 : N = 0
  · subst h0
    have hi : i = 0 := by
      by_cases h : i = 0
      · exact h
      · have := hlt h; omega
    subst hi
    have e : (((0 : Nat) : Int) - 1).tdiv (K : Int) = -((1 / K : Nat) : Int) := by
      have : ((0 : Nat) : Int) - 1 = -((1 : Nat) : Int) := by omega
      rw [this, Int.neg_tdiv]
      rfl
    have h1 : 1 / K ≤ 1 := Nat.div_le_self 1 K
    rw [e]
    generalize 1 / K = q at h1
    rw [IntWalk.wrap64_in _ (by omega)]
    omega
  · have e : ((N : Int) - 1).tdiv (K : Int) = (((N - 1) / K : Nat) : Int) := by
      have : (N : Int) - 1 = ((N - 1 : Nat) : Int) := by omega
      rw [this]
      rfl
    have h1 : (N - 1) / K ≤ N - 1 := Nat.div_le_self _ _
    have h2 : (N - 1) / K = i := by
      refine Nat.div_eq_of_lt_le ?_ ?_
      · by_cases h : i = 0
        · subst h; omega
        · have := hlt h; omega
      · rw [Nat.succ_mul]; omega
    rw [e, IntWalk.wrap64_in _ (by omega), h2]
    omega
theorem le_no {a b : ByteArray} (h : keyLt a b = true) : Op.bytesLess b.toList a.toList = false ∧ (b.toList == a.toList) = false := by
  refine ⟨by rw [keyLt_less]; exact keyLt_asymm h, ?_⟩
  rw [beq_eq_false_iff_ne]
  intro e
  rw [Lib.toList_data, Lib.toList_data] at e
  rw [byteArray_ext e, keyLt_irrefl] at h
  cases h
set_option maxRecDepth 100000 in
set_option maxHeartbeats 4000000 in
theorem scanBatches_any (kind key value most : Int) (a : Option Addr) (n c : Nat) (ss : Nat → Pr) (x : Int) (W : World) (hs : Puts W a n ss) (hn : n ≤ 9223372036854775807) :
    Calls Tryz.prog 7 #[.int .i64 kind, .int .i64 key, .int .i64 value, .int .i64 most, .slice a n c, .int .i64 x] W fun e w' => e = .returned (.bool true) ∧ Kept (fun _ => False) W w' := by
  have HS := Lib.hid hs
  clear hs
  obtain ⟨A, hA, hA'⟩ := mask_nat x 16 (by omega) 65535 (by decide)
  have hA7 : A % 7 < 7 := Nat.mod_lt _ (by omega)
  obtain ⟨K, hK⟩ : ∃ K, K = 1 + A % 7 := ⟨_, rfl⟩
  have g : wrap64 (1 + (bits .and .i64 x 65535).tmod 7) = (K : Int) := by
    have e : ((A : Nat) : Int).tmod 7 = ((A % 7 : Nat) : Int) := tmod_nat A 7
    rw [hA, e, IntWalk.wrap64_in _ (by omega), hK]
    omega
  have hK1 : 1 ≤ K := by omega
  have hK7 : K ≤ 7 := by omega
  clear hA hA' hA7 hK
  go_enter Tryz.func7, Tryz.ntmps7
  go_wp2_with fail
  refine (shown_any W).mono ?_
  rintro e w1 ⟨rfl, k1⟩
  have K1 := Lib.hid k1
  have MD := Lib.hid (made11_any kind key value most a n c ss w1 (fun i hi => by
    obtain ⟨b, o, e, hb, hp⟩ := HS.out i hi
    exact ⟨b, o, e, Nat.lt_of_lt_of_le hb k1.size, hp.kept hb k1 (fun e => e)⟩) hn)
  clear k1
  go_wp2_with fail
  refine MD.out.mono ?_
  rintro e w2 ⟨bt, br, P, rfl, hd⟩
  have hmx := (small_right kind key value most).2.2.2
  generalize smallM kind key value most = m at hd hmx
  obtain ⟨Ft, Fr, hses, hrs, hap, hfl⟩ := hd.ex
  have hN12 : P.length ≤ 12 := by have := hses.len; omega
  obtain ⟨N, hN⟩ : ∃ N, P.length = N := ⟨_, rfl⟩
  rw [hN] at hN12
  have HN := Lib.hid hN
  have SE := Lib.hid (And.intro hses (show ∀ b, Ft b → w1.heap.size ≤ b ∧ b < w2.heap.size from fun b hb => by have := hfl b (.inl hb); exact ⟨this.1, this.2.1⟩))
  have SP0 := Lib.hid (show SameP P P from ⟨.refl _, hses.nodup⟩)
  have HND := Lib.hid hses.nodup
  have KW2 := Lib.hid (K1.out.trans hd.back (fun _ _ e => e))
  clear MD hd hses hrs hap hfl hN hmx
  go_wp2_with fail
  rw [g]
  clear g
  obtain ⟨L, hL⟩ : ∃ L, pairsP P = L := ⟨_, rfl⟩
  have hLN : L.length = N := by rw [← hL, pairsP_len, HN.out]
  have HL := Lib.hid (And.intro hL hLN)
  clear hL hLN
  go_loopw [16, 17, 18, 19, 20, 21, 22, 23, 24] (fun s16 s17 s18 s19 s20 s21 s22 s23 s24 wr => ∃ (i T : Nat) (P' : List Pr), T = i * K ∧ T ≤ N ∧ (i ≠ 0 → T < N) ∧ s16 = .string (lastK ((L.take T).map (·.1))) ∧ s17 = .bool (decide (T = 0)) ∧ s18 = .int .i64 (T : Int) ∧ s19 = .int .i64 (i : Int) ∧ Ses m bt P' Ft wr ∧ SameP P P' ∧ Kept Ft w2 wr) (fun _ _ _ s19 _ _ _ _ _ _ => 20 - (intOf s19).toNat)
  case atStart => exact ⟨0, 0, P, by omega, by omega, by omega, by simp [lastK], rfl, rfl, rfl, SE.out.1, SP0.out, Kept.refl _ _⟩
  case round =>
    obtain ⟨i, T, P', hTi, hTN, hTlt, rfl, rfl, rfl, rfl, hs, hsp, hkr⟩ := hrel
    have hi20 : (i : Int) < 20 := by
      have : i ≤ i * K := Nat.le_mul_of_pos_right i hK1
      omega
    have HT := Lib.hid (And.intro hTi (And.intro hTN hTlt))
    have ab : aboveP (lastK ((L.take T).map (·.1))) (decide (T = 0)) P' = L.drop T := by
      have h := above_drop hsp.nodup T (by rw [hsp.pairs, HL.out.1, HL.out.2]; exact hTN)
      rwa [hsp.pairs, HL.out.1] at h
    have AB := Lib.hid ab
    have S1 := Lib.hid (And.intro hs (And.intro hsp hkr))
    generalize hlk : lastK ((L.take T).map (·.1)) = lk at AB
    generalize hfi : decide (T = 0) = fi at AB
    have HLK := Lib.hid (And.intro hlk hfi)
    clear hTi hTN hTlt ab hs hsp hkr hlk hfi
    go_wp2_with fail
    refine (ses_batch S1.out.1 lk fi (K : Int)).mono ?_
    rintro e w4 ⟨sv, rfl, hrow, k4⟩
    rw [AB.out] at hrow ⊢
    simp only [batchP, Int.toNat_natCast] at hrow ⊢
    obtain ⟨R, hR⟩ : ∃ R, (L.drop T).take K = R := ⟨_, rfl⟩
    obtain ⟨bm, hbm⟩ : ∃ bm, decide (K < (L.drop T).length) = bm := ⟨_, rfl⟩
    rw [hR] at hrow
    rw [hbm]
    obtain ⟨ra, rc, rfl⟩ := hrow.form
    obtain ⟨M, hM⟩ : ∃ M, R.length = M := ⟨_, rfl⟩
    have ROW := Lib.hid (And.intro hrow k4)
    have HR := Lib.hid (And.intro hR (And.intro hbm hM))
    rw [hM]
    clear hrow k4 hR hbm hM
    have hM7 : M ≤ 7 := by have := HR.out; rw [← this.2.2, ← this.1, List.length_take]; omega
    go_wp2_with fail
    go_loopw [22, 23, 24] (fun s22 s23 s24 wq => ∃ (k : Nat) (P'' : List Pr), k ≤ M ∧ s22 = .int .i64 (k : Int) ∧ Ses m bt P'' Ft wq ∧ SameP P P'' ∧ Kept Ft w4 wq) (fun s22 _ _ _ => M - (intOf s22).toNat)
    case atStart => exact ⟨0, P', Nat.zero_le _, rfl, S1.out.1.keep ROW.out.2, S1.out.2.1, Kept.refl _ _⟩
    case round =>
      obtain ⟨k, P'', hkM, rfl, hs, hsp, hkq⟩ := hrel
      by_cases hk : k < M
      · obtain ⟨p, hp⟩ : ∃ p, R[k]? = some p := ⟨_, List.getElem?_eq_getElem (by have := HR.out.2.2; omega)⟩
        have hfr : ∀ b, (Value.slice ra M rc).ownBlock = some b → ¬ Ft b := fun b e h => by
          have h1 := ROW.out.1.2 b (by rw [HR.out.2.2]; exact e)
          have h2 := (SE.out.2 b h).2
          have h3 := S1.out.2.2.size
          omega
        have row := ROW.out.1.kept hkq (fun b e => hfr b (by rw [HR.out.2.2] at e; exact e))
        obtain ⟨g, rfl, d1, d2⟩ := row.at hp
        have hlook : lookP p.1 P'' = some p.2 := by
          refine hsp.look ?_
          have h1 := List.mem_of_getElem? hp
          rw [← HR.out.1] at h1
          rw [HL.out.1]
          exact List.mem_of_mem_drop (List.mem_of_mem_take h1)
        have hkM' : (k : Int) < (M : Int) := by omega
        have ROWS := Lib.hid (And.intro row hp)
        have S2 := Lib.hid (And.intro hs (And.intro hsp (And.intro hkq hlook)))
        have HFR := Lib.hid hfr
        clear hs hsp hkq hlook row hfr hp hk hkM
        have hgt : fi = true ∨ keyLt lk p.1 = true := by
          have h1 := List.mem_of_getElem? ROWS.out.2
          rw [← HR.out.1] at h1
          have h2 := List.mem_of_mem_take h1
          rw [← AB.out] at h2
          have h3 := (List.mem_filter.1 h2).2
          simpa using h3
        have hb1 : fi = true ∨ (fi = false ∧ Op.bytesLess p.1.toList lk.toList = false ∧ (p.1.toList == lk.toList) = false) := by
          cases fi with
          | true => exact .inl rfl
          | false => exact .inr ⟨rfl, le_no (hgt.resolve_left (by simp))⟩
        clear hgt
        have hprev : k = 0 ∨ ∃ (p' : Pr) (k' : Nat), k = k' + 1 ∧ wr.cell? ⟨g, k' * 2, none⟩ = some (.string p'.1) ∧ Op.bytesLess p.1.toList p'.1.toList = false ∧ (p.1.toList == p'.1.toList) = false := by
          by_cases h0 : k = 0
          · exact .inl h0
          · right
            obtain ⟨p', hp'⟩ : ∃ p', R[k - 1]? = some p' := ⟨_, List.getElem?_eq_getElem (by have := HR.out.2.2; omega)⟩
            obtain ⟨g', e, f1, -⟩ := ROWS.out.1.at hp'
            cases e
            refine ⟨p', k - 1, by omega, f1, ?_⟩
            have hri := pairsP_rises HND.out
            rw [HL.out.1] at hri
            unfold Rises at hri
            have hri2 := (hri.sublist (List.drop_sublist T L)).sublist (List.take_sublist K _)
            rw [HR.out.1] at hri2
            obtain ⟨h1, e1⟩ := List.getElem?_eq_some_iff.1 hp'
            obtain ⟨h2, e2⟩ := List.getElem?_eq_some_iff.1 ROWS.out.2
            have := (List.pairwise_iff_getElem.1 hri2) (k - 1) k h1 h2 (by omega)
            rw [e1, e2] at this
            exact le_no this
        obtain ⟨x1, w7, hcv, kq1, bq1, z1⟩ := bytes_made wr.drew p.1
        have KQ := Lib.hid (And.intro kq1 (And.intro bq1 z1))
        clear kq1 bq1 z1
        rcases hb1 with rfl | ⟨rfl, hb1, hb2⟩
        · rcases hprev with rfl | ⟨p', k', rfl, f1, hb3, hb4⟩
          ·
            go_wp2_with fail
            go_region
            go_wp2_with fail
            refine (ses_look (k := p.1) (c := x1) S2.out.1 ((Kept.refl _ wr).drew.trans KQ.out.1 (fun _ _ e => e)) KQ.out.2.1).mono ?_
            rintro e w8 ⟨xv, rfl, h8, hf, k8⟩
            rw [S2.out.2.2.2] at hf ⊢
            obtain ⟨xe, rfl, hea, hek, hed, -⟩ := hf
            have hz := KQ.out.2.2
            have row8 := (ROWS.out.1.kept ((Kept.refl (fun _ => False) wr).drew.trans KQ.out.1 (fun _ _ e => e)) (fun _ _ e => e)).kept k8 (fun b e => by rw [HR.out.2.2] at e; exact HFR.out b e)
            obtain ⟨g', e, d3, d4⟩ := row8.at ROWS.out.2
            cases e
            have hsl := hea.sl
            have hcv2 := (hea.data.twin (twin_drew w8)).conv (c := xe.c)
            rw [hed] at hsl hcv2
            have S8 := Lib.hid (And.intro h8 k8)
            clear row8 hea hek hed h8 k8 hcv hz d1 d2
            simp only [Option.isSome_some]
            go_wp2_with fail
            go_region
            go_wp2_with fail
            go_roundw
            case rel =>
              exact ⟨0 + 1, _, by omega, by go_num, S8.out.1.keep ((Kept.refl _ _).drew), S2.out.2.1.use _ _, ((S2.out.2.2.1.trans ((Kept.refl (fun _ => False) wr).drew.trans KQ.out.1 (fun _ _ e => e)) (fun _ _ e => e.elim)).trans S8.out.2 (fun _ _ e => e)).drew⟩
            case measure => simp [intOf]; omega
          ·
            have n1 : (0 : Int) ≤ (k' : Int) + 1 := by omega
            have n2 : (k' : Int) + 1 < (M : Int) := by omega
            have n3 : (0 : Int) < (k' : Int) + 1 := by omega
            have n4 : IntKind.i64.wrap ((k' : Int) + 1 - 1) = (k' : Int) := by rw [IntWalk.i64_in _ (by omega)]; omega
            have n5 : wrap64 ((k' : Int) + 1 - 1) = (k' : Int) := by rw [IntWalk.wrap64_in _ (by omega)]; omega
            have n6 : (k' : Int) < (M : Int) := by omega
            have n7 : (0 : Int) ≤ (k' : Int) := by omega
            go_wp2_with fail
            go_region
            go_wp2_with fail
            refine (ses_look (k := p.1) (c := x1) S2.out.1 ((Kept.refl _ wr).drew.trans KQ.out.1 (fun _ _ e => e)) KQ.out.2.1).mono ?_
            rintro e w8 ⟨xv, rfl, h8, hf, k8⟩
            rw [S2.out.2.2.2] at hf ⊢
            obtain ⟨xe, rfl, hea, hek, hed, -⟩ := hf
            have hz := KQ.out.2.2
            have row8 := (ROWS.out.1.kept ((Kept.refl (fun _ => False) wr).drew.trans KQ.out.1 (fun _ _ e => e)) (fun _ _ e => e)).kept k8 (fun b e => by rw [HR.out.2.2] at e; exact HFR.out b e)
            obtain ⟨g', e, d3, d4⟩ := row8.at ROWS.out.2
            cases e
            have hsl := hea.sl
            have hcv2 := (hea.data.twin (twin_drew w8)).conv (c := xe.c)
            rw [hed] at hsl hcv2
            have S8 := Lib.hid (And.intro h8 k8)
            clear row8 hea hek hed h8 k8 hcv hz d1 d2
            simp only [Option.isSome_some]
            go_wp2_with fail
            go_region
            go_wp2_with fail
            go_roundw
            case rel =>
              exact ⟨k' + 1 + 1, _, by omega, by go_num, S8.out.1.keep ((Kept.refl _ _).drew), S2.out.2.1.use _ _, ((S2.out.2.2.1.trans ((Kept.refl (fun _ => False) wr).drew.trans KQ.out.1 (fun _ _ e => e)) (fun _ _ e => e.elim)).trans S8.out.2 (fun _ _ e => e)).drew⟩
            case measure => simp [intOf]; omega
        · rcases hprev with rfl | ⟨p', k', rfl, f1, hb3, hb4⟩
          ·
            go_wp2_with fail
            go_region
            go_wp2_with fail
            refine (ses_look (k := p.1) (c := x1) S2.out.1 ((Kept.refl _ wr).drew.trans KQ.out.1 (fun _ _ e => e)) KQ.out.2.1).mono ?_
            rintro e w8 ⟨xv, rfl, h8, hf, k8⟩
            rw [S2.out.2.2.2] at hf ⊢
            obtain ⟨xe, rfl, hea, hek, hed, -⟩ := hf
            have hz := KQ.out.2.2
            have row8 := (ROWS.out.1.kept ((Kept.refl (fun _ => False) wr).drew.trans KQ.out.1 (fun _ _ e => e)) (fun _ _ e => e)).kept k8 (fun b e => by rw [HR.out.2.2] at e; exact HFR.out b e)
            obtain ⟨g', e, d3, d4⟩ := row8.at ROWS.out.2
            cases e
            have hsl := hea.sl
            have hcv2 := (hea.data.twin (twin_drew w8)).conv (c := xe.c)
            rw [hed] at hsl hcv2
            have S8 := Lib.hid (And.intro h8 k8)
            clear row8 hea hek hed h8 k8 hcv hz d1 d2
            simp only [Option.isSome_some]
            go_wp2_with fail
            go_region
            go_wp2_with fail
            go_roundw
            case rel =>
              exact ⟨0 + 1, _, by omega, by go_num, S8.out.1.keep ((Kept.refl _ _).drew), S2.out.2.1.use _ _, ((S2.out.2.2.1.trans ((Kept.refl (fun _ => False) wr).drew.trans KQ.out.1 (fun _ _ e => e)) (fun _ _ e => e.elim)).trans S8.out.2 (fun _ _ e => e)).drew⟩
            case measure => simp [intOf]; omega
          ·
            have n1 : (0 : Int) ≤ (k' : Int) + 1 := by omega
            have n2 : (k' : Int) + 1 < (M : Int) := by omega
            have n3 : (0 : Int) < (k' : Int) + 1 := by omega
            have n4 : IntKind.i64.wrap ((k' : Int) + 1 - 1) = (k' : Int) := by rw [IntWalk.i64_in _ (by omega)]; omega
            have n5 : wrap64 ((k' : Int) + 1 - 1) = (k' : Int) := by rw [IntWalk.wrap64_in _ (by omega)]; omega
            have n6 : (k' : Int) < (M : Int) := by omega
            have n7 : (0 : Int) ≤ (k' : Int) := by omega
            go_wp2_with fail
            go_region
            go_wp2_with fail
            refine (ses_look (k := p.1) (c := x1) S2.out.1 ((Kept.refl _ wr).drew.trans KQ.out.1 (fun _ _ e => e)) KQ.out.2.1).mono ?_
            rintro e w8 ⟨xv, rfl, h8, hf, k8⟩
            rw [S2.out.2.2.2] at hf ⊢
            obtain ⟨xe, rfl, hea, hek, hed, -⟩ := hf
            have hz := KQ.out.2.2
            have row8 := (ROWS.out.1.kept ((Kept.refl (fun _ => False) wr).drew.trans KQ.out.1 (fun _ _ e => e)) (fun _ _ e => e)).kept k8 (fun b e => by rw [HR.out.2.2] at e; exact HFR.out b e)
            obtain ⟨g', e, d3, d4⟩ := row8.at ROWS.out.2
            cases e
            have hsl := hea.sl
            have hcv2 := (hea.data.twin (twin_drew w8)).conv (c := xe.c)
            rw [hed] at hsl hcv2
            have S8 := Lib.hid (And.intro h8 k8)
            clear row8 hea hek hed h8 k8 hcv hz d1 d2
            simp only [Option.isSome_some]
            go_wp2_with fail
            go_region
            go_wp2_with fail
            go_roundw
            case rel =>
              exact ⟨k' + 1 + 1, _, by omega, by go_num, S8.out.1.keep ((Kept.refl _ _).drew), S2.out.2.1.use _ _, ((S2.out.2.2.1.trans ((Kept.refl (fun _ => False) wr).drew.trans KQ.out.1 (fun _ _ e => e)) (fun _ _ e => e.elim)).trans S8.out.2 (fun _ _ e => e)).drew⟩
            case measure => simp [intOf]; omega
      · obtain rfl : k = M := by omega
        have hr := HR.out
        have hTN := HT.out.2.1
        have hlN := HL.out.2
        have hkNT : k = min K (N - T) := by rw [← hr.2.2, ← hr.1, List.length_take, List.length_drop, hlN]
        have hkr : Kept Ft w2 wr := (S1.out.2.2.trans ROW.out.2 (fun _ _ e => e.elim)).trans hkq (fun _ _ e => e)
        have S3 := Lib.hid (And.intro hs (And.intro hsp hkr))
        have w1 : wrap64 ((T : Int) + (k : Int)) = (T : Int) + (k : Int) := IntWalk.wrap64_in _ (by omega)
        cases bm with
        | false =>
          have hNT : N - T ≤ K := by
            have := of_decide_eq_false hr.2.1
            rw [List.length_drop, hlN] at this
            omega
          have e1 : (T : Int) + (k : Int) = (N : Int) := by omega
          have hlen := ses_len hs
          rw [hsp.len, HN.out] at hlen
          have LEN := Lib.hid hlen
          have w1 := w1.trans e1
          have HQ := Lib.hid (And.intro (And.intro hkNT hNT) (And.intro hTN (HT.out.2.2)))
          clear hr hTN hlN hkNT hkr hs hsp hkq hkM hk hlen hNT e1
          go_wp2_with fail
          refine LEN.out.mono ?_
          rintro e w5 ⟨rfl, k5⟩
          have K5 := Lib.hid k5
          have LEN5 := Lib.hid (show Calls Tryz.prog 20 #[.pointer (some ⟨bt, 0, none⟩)] w5 fun e w' => e = .returned (.int .i64 (N : Nat)) ∧ Kept (fun _ => False) w5 w' from by
            have h := ses_len (S3.out.1.keep k5)
            rw [S3.out.2.1.len, HN.out] at h
            exact h)
          clear k5
          go_wp2_with fail
          refine LEN5.out.mono ?_
          rintro e w6 ⟨rfl, k6⟩
          have K6 := Lib.hid k6
          clear k6
          have w2 : wrap64 ((N : Int) - 1) = (N : Int) - 1 := IntWalk.wrap64_in _ (by omega)
          have hK0 : ¬ (K : Int) = 0 := by omega
          obtain ⟨Z, hZ⟩ : ∃ Z, ((N : Int) - 1).tdiv (K : Int) = Z := ⟨_, rfl⟩
          have hmax : max 0 (wrap64 Z) = (i : Int) := by rw [← hZ]; exact quo_law hK1 (by omega) HT.out.1 HQ.out.2.1 HQ.out.2.2 HQ.out.1.2
          have HMX := Lib.hid (show ((i : Int) == max 0 (wrap64 Z)) = true by rw [hmax]; exact beq_self_eq_true _)
          have HFK := Lib.hid (show Kept (fun _ => False) W w6 from by
            have hz := KW2.out.size
            have hz1 := K1.out.size
            exact ((KW2.out.trans S3.out.2.2 (fun b hb e => by have := SE.out.2 b e; omega)).trans K5.out (fun _ _ e => e)).trans K6.out (fun _ _ e => e))
          clear hmax
          clear hM7
          go_wp2_with fail
          rw [HMX.out]
          go_ret
          exact ⟨rfl, HFK.out⟩
        | true =>
          have hKN : K < N - T := by
            have := of_decide_eq_true hr.2.1
            rwa [List.length_drop, hlN] at this
          have hkK : k = K := by omega
          subst hkK
          obtain ⟨k', hk'⟩ : ∃ k', k = k' + 1 := ⟨k - 1, by omega⟩
          obtain ⟨p, hp⟩ : ∃ p, R[k']? = some p := ⟨_, List.getElem?_eq_getElem (by rw [hr.2.2]; omega)⟩
          have row := ROW.out.1.kept hkq (fun b e h => by
            have h1 := ROW.out.1.2 b e
            have h2 := (SE.out.2 b h).2
            have h3 := S1.out.2.2.size
            omega)
          obtain ⟨g, rfl, d1, -⟩ := row.at hp
          have hlast : lastK ((L.take (T + k)).map (·.1)) = p.1 := by
            have e1 : L.take (T + k) = L.take T ++ R := by rw [← hr.1, List.take_add]
            have e2 : R = R.take k' ++ [p] := by
              have : R = R.take (k' + 1) := by rw [← hk', ← hr.2.2, List.take_length]
              rw [take_snoc' hp] at this
              exact this
            rw [e1, e2, List.map_append, List.map_append, ← List.append_assoc]
            exact lastK_snoc _ _
          have HQ := Lib.hid (And.intro hlast (And.intro hKN hTN))
          have n1 : wrap64 ((k : Int) - 1) = (k' : Int) := by rw [IntWalk.wrap64_in _ (by omega)]; omega
          have n2 : (k' : Int) < (k : Int) := by omega
          have n3 : wrap64 ((i : Int) + 1) = (i : Int) + 1 := IntWalk.wrap64_in _ (by omega)
          have HK' := Lib.hid hk'
          have n4 : (0 : Int) ≤ (k' : Int) := by omega
          have d1' : wr.cell? ⟨g, (k - 1) * 2, none⟩ = some (.string p.1) := by rw [show k - 1 = k' by omega]; exact d1
          clear hr hTN hlN hkNT hkr hs hsp hkq hkM hk hlast hKN hp row hk' hM7
          go_wp2_with fail
          go_roundw
          case rel =>
            refine ⟨i + 1, T + k, P'', ?_, ?_, ?_, ?_, ?_, ?_, ?_, S3.out⟩
            · rw [Nat.succ_mul, HT.out.1]
            · have := HQ.out.2.1; omega
            · intro _; have := HQ.out.2.1; omega
            · rw [HQ.out.1]
            · rw [decide_eq_false (by omega)]
            · go_num
            · go_num
          case measure => simp [intOf]; omega
end Go.Proofs.YtjkgimloafpipaaGreat
