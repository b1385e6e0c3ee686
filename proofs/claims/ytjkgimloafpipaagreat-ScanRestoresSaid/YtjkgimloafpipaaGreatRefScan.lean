/- The document's table: All and Snapshot. -/
import Derived.Test.YtjkgimloafpipaaGreatDocB
import Derived.Test.YtjkgimloafpipaaGreatScanA
import Derived.Test.YtjkgimloafpipaaGreatWorlds
namespace Go.Proofs.YtjkgimloafpipaaGreat
set_option linter.unusedVariables false
set_option linter.unusedSimpArgs false
open Go.RowKit Go.MapKept

section
variable {w W : World} {bt : Nat} {m : TM} {lv : Value} {E : List En} {Q : List Pr} {Fp : Nat → Prop}
set_option maxRecDepth 100000 in
theorem rall_any (h : RT w bt m lv E) : Calls Tryz.prog 35 #[.pointer (some ⟨bt, 0, none⟩)] w fun e w' => ∃ a c, e = .returned (.slice a E.length c) ∧ w'.ownsRow 0 83 1 (.slice a E.length c) E.length (ptrs E) ∧ (∀ b, (Value.slice a E.length c).ownBlock = some b → w.heap.size ≤ b) ∧ Kept (fun _ => False) w w' := by
  have hl := h.mx
  have hown := h.own
  obtain ⟨a, c, rfl, -⟩ := own_form hown
  have hs := h.c5
  have hbt := h.row.lt
  have hh := own_holds (ownsRow_kept hown (Kept.one_alloc w (.cells #[] 83)) (fun _ _ e => e))
  have HE := Lib.hid (And.intro (own_empty_at (size := 1) (heap_alloc_new w (.cells #[] 83))) hh)
  have hs1 := ((Kept.one_alloc w (.cells #[] 83)).cell (p := ⟨bt, 5, none⟩) hbt (fun e => e)).trans hs
  obtain ⟨n, hn⟩ : ∃ n, E.length = n := ⟨_, rfl⟩
  have hpl : (ptrs E).length = n * 1 := by rw [ptrs_len, hn, Nat.mul_one]
  have HN := Lib.hid (And.intro hn hpl)
  rw [hn] at hs hs1 hl ⊢
  clear h hown hh hn hpl
  go_enter Tryz.func35, Tryz.ntmps35
  go_wp2_with (at_builtin; refine wpList_append_mine rfl _ _ rentE rfl rfl HE.out.1 a n c (ptrs E) rfl HN.out.2 HE.out.2 (ptrs_one E) (by unfold maxLen; omega) (by omega) ?_; intro a3 c3 w6 own6 k6 b6; have O6 := Lib.hid (And.intro own6 (And.intro k6 b6)); clear own6 k6 b6)
  go_ret
  obtain ⟨o6, k6, b6⟩ := O6.out
  have F0 : ∀ b, (Value.slice (some ⟨w.heap.size, 0, none⟩) 0 0).ownBlock = some b → w.heap.size ≤ b := own_fresh (Nat.le_refl _)
  simp only [Nat.zero_add, List.nil_append] at o6 b6 ⊢
  refine ⟨a3, c3, rfl, o6, own_or F0 (by simp) b6, ?_⟩
  exact kept_own (Kept.one_alloc w _) F0 k6
theorem snapB_take {Q : List Pr} {i : Nat} {p : Pr} (h : Q[i]? = some p) : snapB (Q.take (i + 1)) = (snapB (Q.take i) ++ p.1) ++ p.2 := by
  have e : Q.take (i + 1) = Q.take i ++ [p] := by
    obtain ⟨h1, h2⟩ := List.getElem?_eq_some_iff.1 h
    rw [← h2, ← List.take_append_getElem h1]
  apply byteArray_ext
  rw [e]
  unfold snapB
  rw [snapL_append]
  simp [snapL, ByteArray.data_append]
set_option maxRecDepth 100000 in
set_option maxHeartbeats 1000000 in
theorem rsnap_any (h : RT w bt m lv E) : Calls Tryz.prog 14 #[.pointer (some ⟨bt, 0, none⟩)] w fun e w' => e = .returned (.string (snapB (kvs E))) ∧ Kept (fun _ => False) w w' := by
  have hl := h.mx
  have hr := (rightB_iff _ _ _ _ _).1 h.right
  have H := Lib.hid h
  have RA := Lib.hid (rall_any h)
  obtain ⟨n, hn⟩ : ∃ n, E.length = n := ⟨_, rfl⟩
  have HN := Lib.hid hn
  rw [hn] at hl RA
  clear h hn
  go_enter Tryz.func14, Tryz.ntmps14
  go_wp2_with fail
  refine RA.out.mono ?_
  rintro e w1 ⟨a, c, rfl, ho, hf, k1⟩
  have O1 := Lib.hid (And.intro ho (And.intro hf k1))
  clear ho hf k1 RA
  go_wp2_with fail
  go_loopw [3, 5] (fun s i wr => ∃ k : Nat, k ≤ n ∧ i = .int .i64 (k : Int) ∧ s = .string (snapB ((kvs E).take k)) ∧ Kept (fun _ => False) w1 wr) (fun _ i _ => n - (intOf i).toNat)
  case atStart => exact ⟨0, Nat.zero_le _, rfl, rfl, Kept.refl _ _⟩
  case round =>
    obtain ⟨k, hk, rfl, rfl, hkr⟩ := hrel
    by_cases hlt : k < n
    · obtain ⟨x, hx⟩ : ∃ x, E[k]? = some x := ⟨_, List.getElem?_eq_getElem (by rw [HN.out]; exact hlt)⟩
      have hq : (kvs E)[k]? = some (x.key, x.data) := by unfold kvs; rw [List.getElem?_map, hx]; rfl
      have SN := Lib.hid (snapB_take hq)
      have hxm := List.mem_of_getElem? hx
      have hsz : (snapB ((kvs E).take k)).size ≤ 400000 := by
        have h1 : (snapB ((kvs E).take k)).size = ((kvs E).take k).length * (m.ks.toNat + m.vs.toNat) := snapB_size fun p hp => by
          have hp := List.mem_of_mem_take hp
          unfold kvs at hp
          obtain ⟨y, hy, rfl⟩ := List.mem_map.1 hp
          have := H.out.size y hy
          constructor
          · show y.key.size = _; omega
          · show y.data.size = _; omega
        have h3 : ((kvs E).take k).length * (m.ks.toNat + m.vs.toNat) ≤ 1024 * 320 := Nat.mul_le_mul (by rw [List.length_take]; omega) (by omega)
        omega
      have hxs := H.out.size x hxm
      have hks : x.key.size ≤ 1000 := by omega
      have hvs : x.data.size ≤ 1000 := by omega
      have kwr := O1.out.2.2.trans hkr (fun _ _ e => e)
      have hE := (H.out.keep kwr).en x hxm
      have hrow := ownsRow_kept O1.out.1 hkr (fun _ _ e => e)
      obtain ⟨a', c', e, hg, -⟩ := own_form hrow
      cases e
      obtain ⟨g, rfl⟩ := hg (by omega)
      have d0 : wr.cell? ⟨g, k, none⟩ = some (.pointer (some ⟨x.b, 0, none⟩)) := own_cell hrow (by unfold ptrs; rw [List.getElem?_map, hx]; rfl)
      have d1 := hE.key
      have d2 := hE.sl
      have hcv := (hE.data.twin (twin_drew wr)).conv (c := x.c)
      have KR := Lib.hid hkr
      have n1 : (k : Int) < (n : Int) := by omega
      have hm1 : (snapB ((kvs E).take k)).size + x.key.size ≤ maxLen := by unfold maxLen; omega
      have hm2 : (snapB ((kvs E).take k) ++ x.key).size + x.data.size ≤ maxLen := by rw [ByteArray.size_append]; unfold maxLen; omega
      clear hx hq hxm hxs kwr hE hrow hg hkr
      generalize snapB ((kvs E).take k) = S at SN hsz hm1 hm2
      go_wp2_with fail
      go_region
      all_goals
        go_wp2_with fail
        go_roundw
        case rel => exact ⟨k + 1, by omega, by go_num, by rw [SN.out], KR.out.drew⟩
        case measure => simp [intOf]; omega
    · obtain rfl : k = n := by omega
      have hall : (kvs E).take k = kvs E := by rw [← HN.out, ← kvs_len, List.take_length]
      have KR := Lib.hid (O1.out.2.2.trans hkr (fun _ _ e => e))
      have HA := Lib.hid hall
      clear hall hkr
      go_wp2_with fail
      go_ret
      exact ⟨by rw [HA.out]; rfl, KR.out⟩
theorem rses_snap (h : RSes m bt Q Fp w) : Calls Tryz.prog 14 #[.pointer (some ⟨bt, 0, none⟩)] w fun e w' => e = .returned (.string (snapB Q)) ∧ Kept (fun _ => False) w w' := by
  obtain ⟨lv, E, h1, rfl, -⟩ := h
  exact rsnap_any h1
end
end Go.Proofs.YtjkgimloafpipaaGreat
