/- The document's batch of a table. -/
import Derived.Test.YtjkgimloafpipaaGreatRPairs
namespace Go.Proofs.YtjkgimloafpipaaGreat
set_option linter.unusedVariables false
set_option linter.unusedSimpArgs false
open Go.RowKit Go.MapKept

theorem batch_step {L : List Pr} {f : Pr → Bool} {i : Nat} {p : Pr} (hp : L[i]? = some p) : (L.take (i + 1)).filter f = (L.take i).filter f ++ (if f p = true then [p] else []) := by
  rw [take_snoc' hp, List.filter_append]
  congr 1
  by_cases h : f p = true
  · rw [if_pos h]; simp [h]
  · rw [if_neg h]; simp [h]
theorem batch_cut {L : List Pr} {f : Pr → Bool} {i : Nat} {p : Pr} {n : Int} (hp : L[i]? = some p) (hf : f p = true) (h1 : ((L.take i).filter f).length ≤ n.toNat) (h2 : n ≤ (((L.take i).filter f).length : Int)) : batchP n (L.filter f) = ((L.take i).filter f, true) := by
  obtain ⟨h3, h4⟩ := List.getElem?_eq_some_iff.1 hp
  have e : L.filter f = (L.take i).filter f ++ p :: (L.drop (i + 1)).filter f := by
    conv => lhs; rw [← List.take_append_drop i L, List.filter_append, ← List.getElem_cons_drop (h := h3), h4]
    rw [List.filter_cons_of_pos hf]
  have hn : n.toNat = ((L.take i).filter f).length := by omega
  unfold batchP
  rw [hn, e]
  simp
theorem batch_all {L : List Pr} {f : Pr → Bool} {n : Int} (h1 : (L.filter f).length ≤ n.toNat) : batchP n (L.filter f) = (L.filter f, false) := by
  unfold batchP
  rw [List.take_of_length_le h1, decide_eq_false (by omega)]
set_option maxRecDepth 100000 in
set_option maxHeartbeats 4000000 in
theorem rbatch_any {w : World} {bt : Nat} {m : TM} {lv : Value} {E : List En} (h : RT w bt m lv E) (after : ByteArray) (first : Bool) (n : Int) :
    Calls Tryz.prog 26 #[.pointer (some ⟨bt, 0, none⟩), .string after, .bool first, .int .i64 n] w fun e w' => ∃ sv, e = .returned (.tuple #[sv, .bool (batchP n (aboveP after first (kvs E))).2]) ∧ w'.ownsRow 0 69 2 sv (batchP n (aboveP after first (kvs E))).1.length (prV (batchP n (aboveP after first (kvs E))).1) ∧ (∀ b, sv.ownBlock = some b → w.heap.size ≤ b) ∧ Kept (fun _ => False) w w' := by
  have hl : (pairsP (kvs E)).length ≤ 1024 := by rw [pairsP_len, kvs_len]; exact h.mx
  have RP := Lib.hid (rpairs_any h)
  unfold aboveP
  obtain ⟨f, hf⟩ : ∃ f : Pr → Bool, f = (fun p => first || keyLt after p.1) := ⟨_, rfl⟩
  rw [← hf]
  have HF := Lib.hid hf
  obtain ⟨L, hL⟩ : ∃ L, pairsP (kvs E) = L := ⟨_, rfl⟩
  rw [hL] at hl RP ⊢
  obtain ⟨N, hN⟩ : ∃ N, L.length = N := ⟨_, rfl⟩
  have HN := Lib.hid hN
  rw [hN] at hl RP
  clear h hL hf hN
  go_enter Tryz.func26, Tryz.ntmps26
  go_wp2_with fail
  refine RP.out.mono ?_
  rintro e w1 ⟨av, rfl, hrow, hfr, k1⟩
  obtain ⟨a, c, rfl, hg, -, -⟩ := own_form hrow
  have R1 := Lib.hid (And.intro hrow (And.intro hfr k1))
  have E1 := Lib.hid (own_empty_at (size := 2) (heap_alloc_new w1 (.cells #[] 69)))
  clear hrow hfr k1 hg RP
  go_wp2_with fail
  have ke := Kept.one_alloc w1 (.cells #[] 69)
  obtain ⟨w2, hw2⟩ : ∃ w2, w1.alloc (.cells #[] 69) = w2 := ⟨_, rfl⟩
  obtain ⟨ob, hob⟩ : ∃ ob, w1.heap.size = ob := ⟨_, rfl⟩
  have E2 := Lib.hid (show w2.ownsRow 0 69 2 (.slice (some ⟨ob, 0, none⟩) 0 0) 0 [] ∧ Kept (fun _ => False) w1 w2 ∧ w1.heap.size ≤ ob from ⟨by rw [← hw2, ← hob]; exact E1.out, by rw [← hw2]; exact ke, Nat.le_of_eq hob⟩)
  rw [hw2, hob]
  clear hw2 hob ke E1
  go_loopw [11, 12] (fun s11 s12 wr => ∃ (i M : Nat) (sa : Option Addr) (sc : Nat), i ≤ N ∧ s12 = .int .i64 (i : Int) ∧ s11 = .slice sa M sc ∧ ((L.take i).filter f).length = M ∧ M ≤ n.toNat ∧ M ≤ i ∧ wr.ownsRow 0 69 2 (.slice sa M sc) M (prV ((L.take i).filter f)) ∧ (∀ b, (Value.slice sa M sc).ownBlock = some b → w1.heap.size ≤ b) ∧ Kept (fun _ => False) w1 wr) (fun _ s12 _ => N - (intOf s12).toNat)
  case atStart => exact ⟨0, 0, _, _, Nat.zero_le _, rfl, rfl, rfl, Nat.zero_le _, Nat.le_refl _, E2.out.1, own_fresh E2.out.2.2, E2.out.2.1⟩
  case round =>
    obtain ⟨i, M, sa, sc, hi, rfl, rfl, hM, hMn, hMi, hrow, hfr, hkr⟩ := hrel
    have O := Lib.hid (And.intro hrow (And.intro hfr (And.intro hkr (And.intro hM (And.intro hMn hMi)))))
    clear hrow hfr hkr hM
    by_cases hlt : i < N
    · obtain ⟨p, hp⟩ : ∃ p, L[i]? = some p := ⟨_, List.getElem?_eq_getElem (by rw [HN.out]; exact hlt)⟩
      have row := ownsRow_kept R1.out.1 O.out.2.2.1 (fun _ _ e => e)
      obtain ⟨a', c', e, hg, -, -⟩ := own_form row
      cases e
      obtain ⟨g, rfl⟩ := hg (by omega)
      have d0 := own_cell row (prV_at hp).1
      have d1 := own_cell row (prV_at hp).2
      have HP := Lib.hid hp
      have hsel : (f p = true ∧ (first = true ∨ (first = false ∧ Op.bytesLess p.1.toList after.toList = false ∧ (p.1.toList == after.toList) = false))) ∨ (f p = false ∧ first = false ∧ (Op.bytesLess p.1.toList after.toList = true ∨ (Op.bytesLess p.1.toList after.toList = false ∧ (p.1.toList == after.toList) = true))) := by
        rw [HF.out]
        cases first with
        | true => exact .inl ⟨rfl, .inl rfl⟩
        | false =>
          cases hk : keyLt after p.1 with
          | true => exact .inl ⟨by simp [hk], .inr ⟨rfl, le_no11 hk⟩⟩
          | false =>
            refine .inr ⟨by simp [hk], rfl, ?_⟩
            rw [keyLt_less]
            cases hk2 : keyLt p.1 after with
            | true => exact .inl rfl
            | false =>
              right
              have e := keyLt_total hk hk2
              rw [e]
              exact ⟨rfl, bytes_self _⟩
      have n1 : (i : Int) < (N : Int) := by omega
      clear row hg hp
      rcases hsel with ⟨hf1, hsel⟩ | ⟨hf0, rfl, hsel⟩
      · have HF1 := Lib.hid hf1
        clear hf1
        by_cases hnM : n ≤ (M : Int)
        · have BC := Lib.hid (batch_cut HP.out HF1.out (by rw [O.out.2.2.2.1]; exact hMn) (by rw [O.out.2.2.2.1]; exact hnM))
          rcases hsel with rfl | ⟨rfl, hs1, hs2⟩
          all_goals
            go_wp2_with fail
            go_ret2
            rw [BC.out]
            refine ⟨.slice sa M sc, rfl, ?_, fun b e => Nat.le_trans R1.out.2.2.size (O.out.2.1 b e), R1.out.2.2.trans O.out.2.2.1 (fun _ _ e => e)⟩
            show World.ownsRow _ 0 _ 2 _ ((L.take i).filter f).length _
            rw [O.out.2.2.2.1]
            exact O.out.1
        · have BS := Lib.hid (batch_step (f := f) HP.out)
          have OW := Lib.hid (ownsRow_kept O.out.1 (Kept.one_alloc wr (.cells #[.string p.1, .string p.2] 69)) (fun _ _ e => e))
          have HY := Lib.hid (heap_alloc_new wr (.cells #[.string p.1, .string p.2] 69))
          have hM9 : M ≤ 1024 := by omega
          rcases hsel with rfl | ⟨rfl, hs1, hs2⟩
          all_goals
            go_wp2_with (at_builtin; refine wpList_append_mine rfl _ _ rpairE rfl rfl OW.out (some ⟨wr.heap.size, 0, none⟩) 1 1 [.string p.1, .string p.2] rfl rfl (holds_block HY.out) (by simp [Value.oneCell']) (by unfold maxLen; omega) (by omega) ?_; intro a3 c3 w6 own6 k6 b6; have O6 := Lib.hid (And.intro own6 (And.intro k6 b6)); clear own6 k6 b6)
            go_roundw
            case rel =>
              obtain ⟨own6, k6, b6⟩ := O6.out
              have F6 := own_or O.out.2.1 (by have := O.out.2.2.1.size; simp; omega) b6
              refine ⟨i + 1, M + 1, a3, c3, by omega, by go_num, rfl, ?_, by omega, by omega, ?_, F6, ?_⟩
              · rw [BS.out, if_pos HF1.out, List.length_append, O.out.2.2.2.1]
                rfl
              · rw [BS.out, if_pos HF1.out, prV_append]
                exact own6
              · exact kept_own (O.out.2.2.1.trans (Kept.one_alloc wr _) (fun _ _ e => e)) O.out.2.1 k6
            case measure => (simp [intOf] <;> omega)
      · have BS := Lib.hid (batch_step (f := f) HP.out)
        have HF0 := Lib.hid hf0
        clear hf0
        rcases hsel with hs1 | ⟨hs1, hs2⟩
        all_goals
          go_wp2_with fail
          go_roundw
          case rel =>
            refine ⟨i + 1, M, sa, sc, by omega, by go_num, rfl, ?_, hMn, by omega, ?_, O.out.2.1, O.out.2.2.1⟩
            · rw [BS.out, if_neg (by rw [HF0.out]; simp), List.append_nil]
              exact O.out.2.2.2.1
            · rw [BS.out, if_neg (by rw [HF0.out]; simp), List.append_nil]
              exact O.out.1
          case measure => (simp [intOf] <;> omega)
    · obtain rfl : i = N := by omega
      have hall : L.take i = L := by rw [← HN.out, List.take_length]
      have BA := Lib.hid (batch_all (L := L) (f := f) (n := n) (by have := O.out.2.2.2.1; rw [hall] at this; omega))
      have HA := Lib.hid hall
      clear hall
      go_wp2_with fail
      go_ret2
      rw [BA.out]
      obtain ⟨o1, o2, o3, o4, -⟩ := O.out
      rw [HA.out] at o1 o4
      refine ⟨.slice sa M sc, rfl, ?_, fun b e => Nat.le_trans R1.out.2.2.size (o2 b e), R1.out.2.2.trans o3 (fun _ _ e => e)⟩
      show World.ownsRow _ 0 _ 2 _ (L.filter f).length _
      rw [o4]
      exact o1
end Go.Proofs.YtjkgimloafpipaaGreat
