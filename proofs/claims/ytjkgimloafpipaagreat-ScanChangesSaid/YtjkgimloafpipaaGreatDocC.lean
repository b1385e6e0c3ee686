/- What stands under the walks, part C. -/
import Derived.Test.YtjkgimloafpipaaGreatDocA
import Derived.Test.YtjkgimloafpipaaGreatRefNew
import Derived.Test.YtjkgimloafpipaaGreatWorlds
import Derived.Lib.ConvBytes
/- The document's table: another row is put in, raw. -/
namespace Go.Proofs.YtjkgimloafpipaaGreat
set_option linter.unusedVariables false
set_option linter.unusedSimpArgs false
open Go.RowKit Go.MapKept

/-- The table's block with the row r in it, whose entries are L. -/
structure Raw (w2 w3 : World) (bt : Nat) (m : TM) (r : Value) (M : Nat) (L : List En) : Prop where
  row : RowAt w3 bt 6
  c0 : w3.cell? ⟨bt, 0, none⟩ = some (.string m.nm)
  c1 : w3.cell? ⟨bt, 1, none⟩ = some (.int .i64 m.kd)
  c2 : w3.cell? ⟨bt, 2, none⟩ = some (.int .i64 m.ks)
  c3 : w3.cell? ⟨bt, 3, none⟩ = some (.int .i64 m.vs)
  c4 : w3.cell? ⟨bt, 4, none⟩ = some (.int .i64 m.mx)
  c5 : w3.cell? ⟨bt, 5, none⟩ = some r
  own : w3.ownsRow 0 83 1 r M (ptrs L)
  kept : Kept (fun b => b = bt) w2 w3
  fresh : ∀ b, r.ownBlock = some b → w2.heap.size ≤ b
  lt : bt < w2.heap.size
section
variable {w w2 w3 w4 : World} {bt : Nat} {m : TM} {lv r r' : Value} {E L L' : List En} {M M' : Nat}
theorem Raw.ne (h : Raw w2 w3 bt m r M L) : r.ownBlock ≠ some bt := fun e => by have := h.fresh bt e; have := h.lt; omega
theorem Raw.keep (h : Raw w2 w3 bt m r M L) (q : Kept (fun _ => False) w3 w4) : Raw w2 w4 bt m r M L := by
  have hl := h.row.lt
  exact ⟨h.row.kept q (fun e => e), (q.cell (p := ⟨bt, 0, none⟩) hl (fun e => e)).trans h.c0, (q.cell (p := ⟨bt, 1, none⟩) hl (fun e => e)).trans h.c1, (q.cell (p := ⟨bt, 2, none⟩) hl (fun e => e)).trans h.c2, (q.cell (p := ⟨bt, 3, none⟩) hl (fun e => e)).trans h.c3,
    (q.cell (p := ⟨bt, 4, none⟩) hl (fun e => e)).trans h.c4, (q.cell (p := ⟨bt, 5, none⟩) hl (fun e => e)).trans h.c5, ownsRow_kept h.own q (fun _ _ e => e), h.kept.trans q (fun _ _ e => e.elim), h.fresh, h.lt⟩
theorem Raw.store (h : Raw w2 w3 bt m r M L) (hr : w3.ownsRow 0 83 1 r' M' (ptrs L')) (hf : ∀ b, r'.ownBlock = some b → w2.heap.size ≤ b) : Raw w2 (w3.setCell ⟨bt, 5, none⟩ r') bt m r' M' L' := by
  have ks := Kept.one_set w3 ⟨bt, 5, none⟩ r'
  have hl := h.lt
  exact ⟨h.row.setCell _ _, (cell_set_other _ (by omega)).trans h.c0, (cell_set_other _ (by omega)).trans h.c1, (cell_set_other _ (by omega)).trans h.c2, (cell_set_other _ (by omega)).trans h.c3, (cell_set_other _ (by omega)).trans h.c4,
    cell_set_same h.row (by omega) _, ownsRow_kept hr ks (fun b e e2 => by have e2 : b = bt := e2; have := hf b e; omega), h.kept.trans ks (fun _ _ e => e), hf, hl⟩
theorem RT.raw (h : RT w2 bt m lv E) (q : Kept (fun _ => False) w2 w3) (hr : w3.ownsRow 0 83 1 r M (ptrs L)) (hf : ∀ b, r.ownBlock = some b → w2.heap.size ≤ b) : Raw w2 (w3.setCell ⟨bt, 5, none⟩ r) bt m r M L := by
  have h1 := h.keep q
  have ks := Kept.one_set w3 ⟨bt, 5, none⟩ r
  have hl := h.row.lt
  exact ⟨h1.row.setCell _ _, (cell_set_other _ (by omega)).trans h1.c0, (cell_set_other _ (by omega)).trans h1.c1, (cell_set_other _ (by omega)).trans h1.c2, (cell_set_other _ (by omega)).trans h1.c3, (cell_set_other _ (by omega)).trans h1.c4,
    cell_set_same h1.row (by omega) _, ownsRow_kept hr ks (fun b e e2 => by have e2 : b = bt := e2; have := hf b e; omega), (kF q).trans ks (fun _ _ e => e), hf, hl⟩
/-- Entries that were there, or are new. -/
theorem Raw.rt (h : RT w2 bt m lv E) (hR : Raw w2 w3 bt m r L.length L) (hmem : ∀ x ∈ L, (x ∈ E ∨ (EnAt w2 x ∧ (x.key.size : Int) = m.ks ∧ (x.data.size : Int) = m.vs ∧ x.b ≠ bt ∧ x.d ≠ bt)))
    (hkeys : (L.map (·.key)).Nodup) (hblocks : (L.flatMap fun x => [x.b, x.d]).Nodup) (hlen : (L.length : Int) ≤ m.mx) (harr : m.kd = 1 → L.map (·.key) = (List.range m.mx.toNat).map numK) (hrise : m.kd = 2 → Rises (fun x : En => x.key) L) : RT w3 bt m r L := by
  have he : ∀ x ∈ L, EnAt w2 x ∧ (x.key.size : Int) = m.ks ∧ (x.data.size : Int) = m.vs ∧ x.b ≠ bt ∧ x.d ≠ bt := fun x hx => by
    rcases hmem x hx with h1 | h1
    · exact ⟨h.en x h1, (h.size x h1).1, (h.size x h1).2, (h.ownb x h1).1, (h.ownb x h1).2⟩
    · exact h1
  refine ⟨h.right, hR.row, hR.c0, hR.c1, hR.c2, hR.c3, hR.c4, hR.c5, hR.own, hR.ne, fun x hx => (he x hx).1.kept hR.kept (he x hx).2.2.2.1 (he x hx).2.2.2.2, fun x hx => ⟨(he x hx).2.1, (he x hx).2.2.1⟩, hkeys, hblocks, fun b hb x hx => ?_, fun x hx => (he x hx).2.2.2, hlen, harr, hrise⟩
  have := hR.fresh b hb
  have := (he x hx).1.row.lt
  have := (he x hx).1.drow.lt
  omega
/-- A new entry among those that were there. -/
theorem new_list {A B : List En} {y : En} {k : ByteArray} (h : RT w bt m lv (A ++ B)) (hk : ∀ p ∈ A ++ B, p.key ≠ k) (hyk : y.key = k) (hyb : w.heap.size ≤ y.b) (hyd : w.heap.size ≤ y.d) (hne : y.d ≠ y.b) (hA : m.kd = 2 → ∀ x ∈ A, keyLt x.key k = true) (hB : m.kd = 2 → ∀ x ∈ B, keyLt k x.key = true) :
    ((A ++ y :: B).map (·.key)).Nodup ∧ ((A ++ y :: B).flatMap fun x => [x.b, x.d]).Nodup ∧ (m.kd = 2 → Rises (fun x : En => x.key) (A ++ y :: B)) := by
  have hp : (A ++ y :: B).Perm (y :: (A ++ B)) := List.perm_middle
  refine ⟨((hp.map _).nodup_iff).2 ?_, ((flat_perm hp).nodup_iff).2 ?_, fun h2 => ?_⟩
  · rw [List.map_cons, List.nodup_cons]
    refine ⟨fun hm => ?_, h.keys⟩
    obtain ⟨x, hx, e⟩ := List.mem_map.1 hm
    exact hk x hx (e.trans hyk)
  · rw [List.flatMap_cons, List.nodup_append]
    refine ⟨by simpa using fun e => hne e.symm, h.blocks, ?_⟩
    intro a ha b hb e
    obtain ⟨x, hx, hb⟩ := List.mem_flatMap.1 hb
    have l1 := (h.en x hx).row.lt
    have l2 := (h.en x hx).drow.lt
    simp only [List.mem_cons, List.not_mem_nil, or_false] at ha hb
    omega
  · have hr := h.rise h2
    have hr2 := List.pairwise_append.1 hr
    refine List.pairwise_append.2 ⟨hr2.1, List.pairwise_cons.2 ⟨fun b hb => by dsimp only; rw [hyk]; exact hB h2 b hb, hr2.2.1⟩, fun a ha b hb => ?_⟩
    rcases List.mem_cons.1 hb with rfl | hb
    · dsimp only
      rw [hyk]
      exact hA h2 a ha
    · exact hr2.2.2 a ha b hb
/-- What a new key makes. -/
def InsP (w : World) (bt : Nat) (m : TM) (k v : ByteArray) (A B : List En) (w' : World) : Prop :=
  ∃ lv' y, w.heap.size ≤ y.b ∧ w.heap.size ≤ y.d ∧ y.key = k ∧ y.data = v ∧ RT w' bt m lv' (if ((A ++ B).length : Int) + 1 ≤ m.mx then A ++ y :: B else (A ++ y :: B).tail) ∧ Kept (fun b => b = bt) w w' ∧ (∀ b, lv'.ownBlock = some b → w.heap.size ≤ b)
theorem InsP.drewN {A B : List En} {k v : ByteArray} (h : InsP w bt m k v A B w3) (n : Nat) : InsP w bt m k v A B (w3.drewN n) := by
  obtain ⟨lv', y, h1, h2, h3, h4, h5, h6, h7⟩ := h
  exact ⟨lv', y, h1, h2, h3, h4, h5.keep ((Kept.refl _ _).drewN n), h6.drewN n, h7⟩
theorem rins_room {lv0 : Value} {A B : List En} {y : En} {k v : ByteArray} (h2 : RT w2 bt m lv (A ++ B)) (hw : Kept (fun _ => False) w w2) (hy : EnAt w2 y) (hyb : w.heap.size ≤ y.b) (hyd : w.heap.size ≤ y.d) (hne : y.d ≠ y.b) (hyk : y.key = k) (hyv : y.data = v) (h : RT w bt m lv0 (A ++ B)) (hR : Raw w2 w3 bt m r M (A ++ y :: B)) (hM : M = (A ++ B).length + 1)
    (hle : ((A ++ B).length : Int) + 1 ≤ m.mx) (hk : ∀ p ∈ A ++ B, p.key ≠ k) (hA : m.kd = 2 → ∀ x ∈ A, keyLt x.key k = true) (hB : m.kd = 2 → ∀ x ∈ B, keyLt k x.key = true) (hks : (k.size : Int) = m.ks) (hvs : (v.size : Int) = m.vs) (h1 : m.kd ≠ 1) : InsP w bt m k v A B w3 := by
  obtain ⟨n1, n2, n3⟩ := new_list h hk hyk hyb hyd hne hA hB
  have hbt := h.row.lt
  have hL : M = (A ++ y :: B).length := by rw [hM]; simp <;> omega
  rw [hL] at hR
  refine ⟨r, y, hyb, hyd, hyk, hyv, ?_, hw.mono (fun _ _ e => e.elim) |>.trans hR.kept (fun b hb e => e), fun b hb => Nat.le_trans hw.size (hR.fresh b hb)⟩
  rw [if_pos hle]
  refine Raw.rt h2 hR (fun x hx => ?_) n1 n2 (by rw [← hL, hM]; omega) (fun e => absurd e h1) n3
  rcases List.mem_append.1 hx with hx | hx
  · exact .inl (List.mem_append_left _ hx)
  · rcases List.mem_cons.1 hx with rfl | hx
    · exact .inr ⟨hy, by rw [hyk]; exact hks, by rw [hyv]; exact hvs, by omega, by omega⟩
    · exact .inl (List.mem_append_right _ hx)
theorem rins_full {lv0 : Value} {A B : List En} {y : En} {k v : ByteArray} (h2 : RT w2 bt m lv (A ++ B)) (hw : Kept (fun _ => False) w w2) (hy : EnAt w2 y) (hyb : w.heap.size ≤ y.b) (hyd : w.heap.size ≤ y.d) (hne : y.d ≠ y.b) (hyk : y.key = k) (hyv : y.data = v) (h : RT w bt m lv0 (A ++ B)) (hR : Raw w2 w3 bt m r M (A ++ y :: B).tail) (hM : M = (A ++ B).length)
    (hle : m.mx < ((A ++ B).length : Int) + 1) (hk : ∀ p ∈ A ++ B, p.key ≠ k) (hA : m.kd = 2 → ∀ x ∈ A, keyLt x.key k = true) (hB : m.kd = 2 → ∀ x ∈ B, keyLt k x.key = true) (hks : (k.size : Int) = m.ks) (hvs : (v.size : Int) = m.vs) (h1 : m.kd ≠ 1) : InsP w bt m k v A B w3 := by
  obtain ⟨n1, n2, n3⟩ := new_list h hk hyk hyb hyd hne hA hB
  have hbt := h.row.lt
  have hlen := h.len
  have hs : (A ++ y :: B).tail.Sublist (A ++ y :: B) := List.tail_sublist _
  have hL : M = (A ++ y :: B).tail.length := by rw [hM]; simp <;> omega
  rw [hL] at hR
  refine ⟨r, y, hyb, hyd, hyk, hyv, ?_, hw.mono (fun _ _ e => e.elim) |>.trans hR.kept (fun b hb e => e), fun b hb => Nat.le_trans hw.size (hR.fresh b hb)⟩
  rw [if_neg (by omega)]
  refine Raw.rt h2 hR (fun x hx => ?_) (n1.sublist (hs.map _)) (n2.sublist (flat_sub hs)) (by rw [← hL, hM]; exact hlen) (fun e => absurd e h1) (fun e => (n3 e).sublist hs)
  rcases List.mem_append.1 (hs.subset hx) with hx | hx
  · exact .inl (List.mem_append_left _ hx)
  · rcases List.mem_cons.1 hx with rfl | hx
    · exact .inr ⟨hy, by rw [hyk]; exact hks, by rw [hyv]; exact hvs, by omega, by omega⟩
    · exact .inl (List.mem_append_right _ hx)
theorem ins_holds {a : Option Addr} {M c i : Nat} {A B : List En} (h : RT w2 bt m (.slice a M c) (A ++ B)) (hi : A.length = i) : ∀ w', Kept (fun _ => False) w2 w' → Holds9 w' a (ptrs A) ∧ Holds9 w' (if c = i then a else Option.map (fun x => x.add i) a) (ptrs B) := by
  intro w' q
  have ho := (h.keep q).own
  obtain ⟨a', c', e, hg, -, hle⟩ := own_form ho
  cases e
  have hl : (A ++ B).length = i + B.length := by rw [List.length_append, hi]
  refine ⟨?_, ?_⟩
  · by_cases hA : A.length = 0
    · exact rholds_nil (by rw [ptrs_len]; exact hA)
    · obtain ⟨g, rfl⟩ := hg (by simp <;> omega)
      refine rholds_part ho 0 _ fun j u hj => ?_
      rw [ptrs_append, Nat.zero_add, List.getElem?_append_left (List.getElem?_eq_some_iff.1 hj).1]
      exact hj
  · by_cases hB : B.length = 0
    · exact rholds_nil (by rw [ptrs_len]; exact hB)
    · obtain ⟨g, rfl⟩ := hg (by omega)
      rw [if_neg (by omega)]
      show Holds9 w' (some ((⟨g, 0, none⟩ : Addr).add i)) (ptrs B)
      rw [add_zero_off]
      refine rholds_part ho i _ fun j u hj => ?_
      rw [ptrs_append, List.getElem?_append_right (by rw [ptrs_len]; omega), ptrs_len, show i + j - A.length = j by omega]
      exact hj
end
end Go.Proofs.YtjkgimloafpipaaGreat

/- The document's table: Update with a new key. -/
namespace Go.Proofs.YtjkgimloafpipaaGreat
set_option linter.unusedVariables false
set_option linter.unusedSimpArgs false
open Go.RowKit Go.MapKept

/-- '[]byte(s)': a row that may be written. -/
theorem bytes_own (w : World) (s : ByteArray) (hs : s.size ≤ maxLen) : ∃ c w5, (convert 9 23 (.string s)).run Tryz.prog w = .ok (.slice (some ⟨w.heap.size, 0, none⟩) s.size c) w5 ∧ Kept (fun _ => False) w w5 ∧ w5.heap.size = w.heap.size + 1 ∧ RowM w5 w.heap.size c ∧ s.size ≤ c ∧ c ≤ maxLen ∧ ∀ i, i < s.size → w5.cell? ⟨w.heap.size, i, none⟩ = some (.int .u8 ((nums s).getD i 0)) := by
  refine ⟨_, _, Go.Lib.run_convert_string_bytes w 9 23 5 s Tryz.underlying9 Tryz.underlying23 Tryz.underlying5, ?_, Go.Lib.bytesWorld_size _ _ _, ?_, grownCap_ge _ _ _ _, grownCap_le_maxLen _ _ _ _ hs, fun i hi => ?_⟩
  · exact ⟨rfl, rfl, rfl, by rw [Go.Lib.bytesWorld_size]; omega, fun k hk _ => Go.Lib.bytesWorld_at_old _ _ _ k hk⟩
  · have hc : (Go.Lib.bytesCells w 5 s).size = grownCap w s.size 0 5 := by
      have := grownCap_ge w s.size 0 5
      have e : s.data.size = s.size := rfl
      unfold Go.Lib.bytesCells
      simp
      omega
    refine ⟨_, _, _, Go.Lib.bytesWorld_at_new _ _ _, hc, .inr ?_⟩
    rw [hc]
  · rw [Go.Lib.bytesWorld_cell _ _ _ _ hi]
    have hi' : i < s.data.toList.length := by simpa using hi
    simp [nums, List.getD_eq_getElem?_getD, List.getElem?_eq_getElem hi']
theorem ren_bytes {w : World} {d c n : Nat} {k v : ByteArray} (t : TypeId) (hr : RowM w d c) (hn : n = v.size) (hle : v.size ≤ c) (hc : c ≤ maxLen) (hb : ∀ i, i < v.size → w.cell? ⟨d, i, none⟩ = some (.int .u8 ((nums v).getD i 0))) : EnAt (w.alloc (.cells #[.string k, .slice (some ⟨d, 0, none⟩) n c] t)) ⟨w.heap.size, d, c, k, v⟩ := by
  have ka := Kept.one_alloc w (.cells #[.string k, .slice (some ⟨d, 0, none⟩) n c] t)
  exact ⟨RowAt.new w #[.string k, .slice (some ⟨d, 0, none⟩) n c] t, by simp, by rw [← hn]; simp, hr.kept ka (fun e => e), hle, hc, fun i hi => (ka.cell (p := ⟨d, i, none⟩) hr.lt (fun e => e)).trans (hb i hi)⟩

section
variable {w : World} {bt : Nat} {m : TM} {lv : Value} {E : List En} {k v : ByteArray} {fl : Int}
set_option maxRecDepth 100000 in
theorem rupd_full (h : RT w bt m lv E) (hk : ∀ p ∈ E, p.key ≠ k) (hks : (k.size : Int) = m.ks) (hvs : (v.size : Int) = m.vs) (hf : fl = 0 ∨ fl = 1) (h2 : m.kd = 2) (hfull : m.mx ≤ (E.length : Int)) :
    Calls Tryz.prog 24 #[.pointer (some ⟨bt, 0, none⟩), .string k, .string v, .int .i64 fl] w fun e w' => e = .returned (.int .i64 5) ∧ ∃ n, w' = w.drewN n := by
  have hc1 := h.c1
  have hc2 := h.c2
  have hc3 := h.c3
  have hc4 := h.c4
  have hc5 := h.c5
  have hmx := h.mx
  obtain ⟨a, c, rfl, -⟩ := own_form h.own
  rw [h2] at hc1
  rw [← hks] at hc2
  rw [← hvs] at hc3
  have H := Lib.hid h
  have HK := Lib.hid hk
  have h3 := (rightB_iff _ _ _ _ _).1 h.right
  have hks' : k.size ≤ 9223372036854775807 := by omega
  have hvs' : v.size ≤ 9223372036854775807 := by omega
  have d1 : decide (fl < 0) = false := by simp; omega
  have d2 : decide (2 < fl) = false := by simp; omega
  have d3 : (fl == 2) = false := by simp; omega
  clear h hk hks hvs h3 hf h2
  go_enter Tryz.func24, Tryz.ntmps24
  go_wp2_with fail
  refine (rt_find_miss H.out HK.out).mono ?_
  rintro e w' ⟨rfl, rfl⟩
  go_wp2_with fail
  have hd : decide (m.mx ≤ (E.length : Int)) = true := by simpa using hfull
  go_quiet (fail)
  go_wp2_with fail
  go_ret
  exact ⟨rfl, _, rfl⟩

set_option maxRecDepth 100000 in
set_option maxHeartbeats 2000000 in
/-- A new one. -/
theorem rupd_new {A B : List En} (h : RT w bt m lv (A ++ B)) (hk : ∀ p ∈ A ++ B, p.key ≠ k) (hks : (k.size : Int) = m.ks) (hvs : (v.size : Int) = m.vs) (hf : fl = 0 ∨ fl = 1) (h1 : m.kd = 2 ∨ (m.kd = 3 ∧ B = []))
    (hA : m.kd = 2 → ∀ x ∈ A, keyLt x.key k = true) (hB : m.kd = 2 → ∀ x ∈ B, keyLt k x.key = true) (hroom : m.kd = 2 → ((A ++ B).length : Int) < m.mx) :
    Calls Tryz.prog 24 #[.pointer (some ⟨bt, 0, none⟩), .string k, .string v, .int .i64 fl] w fun e w' => e = .returned (.int .i64 0) ∧ InsP w bt m k v A B w' := by
  have hc1 := h.c1
  have hc2 := h.c2
  have hc3 := h.c3
  have hc4 := h.c4
  have hc5 := h.c5
  have hmx := h.mx
  obtain ⟨a, c, rfl, -⟩ := own_form h.own
  rw [← hks] at hc2
  rw [← hvs] at hc3
  have H := Lib.hid h
  have HK := Lib.hid hk
  have h3 := (rightB_iff _ _ _ _ _).1 h.right
  have hks' : k.size ≤ 9223372036854775807 := by omega
  have hvs' : v.size ≤ maxLen := by unfold maxLen; omega
  have hvs2 : v.size ≤ 9223372036854775807 := by omega
  have d1 : decide (fl < 0) = false := by simp; omega
  have d2 : decide (2 < fl) = false := by simp; omega
  have d3 : (fl == 2) = false := by simp; omega
  have HG := Lib.hid (And.intro hA (And.intro hB (And.intro hks hvs)))
  have HV := Lib.hid hvs'
  have H1 := Lib.hid (show m.kd ≠ 1 from by omega)
  clear h hk hks hvs h3 hf hA hB hvs'
  obtain ⟨N, hN⟩ : ∃ N, (A ++ B).length = N := ⟨_, rfl⟩
  have HN := Lib.hid hN
  rw [hN] at hc5 hmx hroom
  clear hN
  rcases h1 with h2 | ⟨h2, hB0⟩
  · have hro := hroom h2
    rw [h2] at hc1
    have H2 := Lib.hid h2
    clear h2 hroom
    go_enter Tryz.func24, Tryz.ntmps24
    go_wp2_with fail
    refine (rt_find_miss H.out HK.out).mono ?_
    rintro e w' ⟨rfl, rfl⟩
    go_wp2_with fail
    have hd : decide (m.mx ≤ (N : Int)) = false := by simp; omega
    go_quiet (fail)
    obtain ⟨w0, hw0⟩ : ∃ w0, w.drewN nq = w0 := ⟨_, rfl⟩
    have t0 : Twin w0 w := by rw [← hw0]; exact ⟨rfl, rfl, rfl, rfl⟩
    rw [hw0]
    clear hw0
    obtain ⟨cap, w1, hcv, k1, z1, hr1, hle1, hcap1, hby1⟩ := bytes_own w0 v HV.out
    have K1 := Lib.hid (And.intro k1 (And.intro z1 (And.intro hr1 (And.intro hle1 (And.intro hcap1 hby1)))))
    clear k1 z1 hr1 hle1 hcap1 hby1
    have hT1 := H.out.keep (((Kept.refl (fun _ => False) w).twin t0).trans K1.out.1 (fun _ _ e => e))
    have ka := Kept.one_alloc w1 (.cells #[.string k, .slice (some ⟨w0.heap.size, 0, none⟩) v.size cap] 82)
    have e5 := (hT1.keep ka).c5
    have e1 := (hT1.keep ka).c1
    rw [H2.out] at e1
    rw [HN.out] at e5
    have T1 := Lib.hid (And.intro hT1 t0)
    clear hT1 t0 hc1 hc2 hc3 hc4 hc5
    go_wp2_with fail
    obtain ⟨yb, hyb⟩ : ∃ yb, w1.heap.size = yb := ⟨_, rfl⟩
    obtain ⟨yd, hyd⟩ : ∃ yd, w0.heap.size = yd := ⟨_, rfl⟩
    have hEn := ren_bytes (k := k) 82 (n := v.size) K1.out.2.2.1 rfl K1.out.2.2.2.1 K1.out.2.2.2.2.1 K1.out.2.2.2.2.2
    obtain ⟨w2, hw2⟩ : ∃ w2, w1.alloc (.cells #[.string k, .slice (some ⟨w0.heap.size, 0, none⟩) v.size cap] 82) = w2 := ⟨_, rfl⟩
    rw [hw2] at ka e5 e1 hEn ⊢
    rw [hyb] at hEn ⊢
    rw [hyd] at hEn ⊢
    have T2 := Lib.hid (show RT w2 bt m (.slice a N c) (A ++ B) ∧ Kept (fun _ => False) w w2 ∧ EnAt w2 ⟨yb, yd, cap, k, v⟩ ∧ w.heap.size ≤ yb ∧ w.heap.size ≤ yd ∧ yd ≠ yb from by
      have h := T1.out.1.keep ka
      rw [HN.out] at h
      have z0 : w0.heap.size = w.heap.size := by rw [T1.out.2.heap]
      have z1 := K1.out.2.1
      exact ⟨h, (((Kept.refl (fun _ => False) w).twin T1.out.2).trans K1.out.1 (fun _ _ e => e)).trans ka (fun _ _ e => e), hEn, by omega, by omega, by omega⟩)
    clear hw2 hyb hyd ka hEn
    obtain ⟨i, hi⟩ : ∃ i, A.length = i := ⟨_, rfl⟩
    have hiN : i ≤ N := by rw [← hi, ← HN.out]; simp
    have HI := Lib.hid hi
    obtain ⟨n, hn⟩ : ∃ n, B.length = n := ⟨_, rfl⟩
    have hin : i + n = N := by rw [← hi, ← hn, ← HN.out]; simp
    have HNB := Lib.hid hn
    have hsub : N - i = n := by omega
    have hcN : N ≤ c := by obtain ⟨a', c', e, -, -, h⟩ := own_form T2.out.1.own; cases e; rw [← HN.out]; exact h
    have HH := Lib.hid (ins_holds T2.out.1 hi)
    have CB := Lib.hid (show ∀ w', Kept (fun _ => False) w2 w' → w'.cell? ⟨bt, 5, none⟩ = some (.slice a N c) ∧ w'.frozen? ⟨bt, 5, none⟩ = false from fun w' q => ⟨(T2.out.1.keep q).c5, (T2.out.1.keep q).row.frozen 5⟩)
    clear hi hro hd hn
    go_loop [13] (fun t => ∃ j : Nat, i ≤ j ∧ j ≤ N ∧ t = .int .i64 j) (fun t => (intOf t).toNat)
    case atStart => exact ⟨N, hiN, Nat.le_refl _, rfl⟩
    case round =>
      obtain ⟨j, hij, hjN, rfl⟩ := hrel
      by_cases hj : i < j
      · have hj1 : j - 1 < (A ++ B).length := by rw [HN.out]; omega
        obtain ⟨g', c', e, hg1, hg2⟩ := T2.out.1.at (List.getElem?_eq_getElem hj1)
        injection e with ha e'' e'
        clear e'' e'
        have hxB : (A ++ B)[j - 1] ∈ B := by
          rw [List.getElem_append_right (by rw [HI.out]; omega)]
          exact List.getElem_mem _
        have hlt := HG.out.2.1 H2.out _ hxB
        obtain ⟨x, hx⟩ : ∃ x, (A ++ B)[j - 1] = x := ⟨_, rfl⟩
        rw [hx] at hg1 hg2 hlt
        have h0j : (0 : Int) < (j : Int) := by omega
        have hw1 : IntKind.i64.wrap ((j : Int) - 1) = (j : Int) - 1 := IntWalk.i64_in _ (by omega)
        have hp1 : (0 : Int) ≤ (j : Int) - 1 := by omega
        have hp2 : (j : Int) - 1 < (N : Int) := by omega
        have htn : ((j : Int) - 1).toNat = j - 1 := by omega
        clear hx hxB
        have hb1 : Op.bytesLess x.key.toList k.toList = false := by rw [keyLt_less]; exact keyLt_asymm hlt
        have hb2 : (x.key.toList == k.toList) = false := bytes_ne (fun e => by rw [e, keyLt_irrefl] at hlt; cases hlt)
        clear hlt
        go_wp2_with fail
        go_round
        case rel => exact ⟨j - 1, by omega, by omega, by congr 1; omega⟩
        case measure => simp [intOf]; omega
      · obtain rfl : j = i := by omega
        have hcs : j = 0 ∨ 0 < j := by omega
        rcases hcs with hj0 | hj0
        case' inl =>
          have h0j : ¬ ((0 : Int) < (j : Int)) := by omega
          clear hj0
          go_wp2_with fail
          clear h0j
        case' inr =>
          have hj1 : j - 1 < (A ++ B).length := by rw [HN.out]; omega
          obtain ⟨g', c', e, hg1, hg2⟩ := T2.out.1.at (List.getElem?_eq_getElem hj1)
          injection e with ha e'' e'
          clear e'' e'
          have hxA : (A ++ B)[j - 1] ∈ A := by
            rw [List.getElem_append_left (by rw [HI.out]; omega)]
            exact List.getElem_mem _
          have hlt := HG.out.1 H2.out _ hxA
          obtain ⟨x, hx⟩ : ∃ x, (A ++ B)[j - 1] = x := ⟨_, rfl⟩
          rw [hx] at hg1 hg2 hlt
          have h0j : (0 : Int) < (j : Int) := by omega
          have hw1 : IntKind.i64.wrap ((j : Int) - 1) = (j : Int) - 1 := IntWalk.i64_in _ (by omega)
          have hp1 : (0 : Int) ≤ (j : Int) - 1 := by omega
          have hp2 : (j : Int) - 1 < (N : Int) := by omega
          have htn : ((j : Int) - 1).toNat = j - 1 := by omega
          have hb1 : Op.bytesLess x.key.toList k.toList = true := by rw [keyLt_less]; exact hlt
          clear hx hxA hlt
          go_wp2_with fail
          clear hw1 hp1 hp2 htn hb1 hg1 hg2 h0j ha hj0
        all_goals
          have hjc : j ≤ c := by omega
          have hjN' : j ≤ N := hjN
          go_wp2_with fail
          refine wp_region_heldE 21 (S := fun w' => w'.cell? ⟨bt, 5, none⟩ = some (.slice a N c)) (by kernel_rfl) ?_ (fun hHeld => ?_)
          · exact (CB.out _ ((Kept.refl (fun _ => False) w2).drew)).1
          refine heldE_take 0 (oi := _) (v := ?_) rfl (by kernel_rfl) (by kernel_rfl) (by kernel_rfl) (by kernel_rfl) (fun _ _ _ h => h) (by rfl) (fun w hSw => ?_) (by assumption) ?_
          rotate_left
          · (try dsimp only at hSw); go_simp; try with_reducible rfl
          try simp only [Act.put, List.setIfInBounds_toArray, List.set_cons_zero, List.set_cons_succ]
          refine heldE_take 2 (oi := _) (v := ?_) rfl (by kernel_rfl) (by kernel_rfl) (by kernel_rfl) (by kernel_rfl) (fun _ _ _ h => h) (by rfl) (fun w hSw => ?_) (by assumption) ?_
          rotate_left
          · (try dsimp only at hSw); go_simp; try with_reducible rfl
          try simp only [Act.put, List.setIfInBounds_toArray, List.set_cons_zero, List.set_cons_succ]
          refine heldE_take 3 (oi := _) (v := ?_) rfl (by kernel_rfl) (by kernel_rfl) (by kernel_rfl) (by kernel_rfl) (fun _ _ _ h => h) (by rfl) (fun w hSw => ?_) (by assumption) ?_
          rotate_left
          · (try dsimp only at hSw); go_simp; try with_reducible rfl
          try simp only [Act.put, List.setIfInBounds_toArray, List.set_cons_zero, List.set_cons_succ]
          refine heldE_take 4 (oi := _) (v := ?_) rfl (by kernel_rfl) (by kernel_rfl) (by kernel_rfl) (by kernel_rfl) (fun _ _ _ h => h) (by rfl) (fun w hSw => ?_) (by assumption) ?_
          rotate_left
          · (try dsimp only at hSw); go_simp; try with_reducible rfl
          try simp only [Act.put, List.setIfInBounds_toArray, List.set_cons_zero, List.set_cons_succ]
          refine heldE_take 5 (oi := _) (v := ?_) rfl (by kernel_rfl) (by kernel_rfl) (by kernel_rfl) (by kernel_rfl) (fun _ _ _ h => h) (by rfl) (fun w hSw => ?_) (by assumption) ?_
          rotate_left
          · (try dsimp only at hSw); go_simp; try with_reducible rfl
          try simp only [Act.put, List.setIfInBounds_toArray, List.set_cons_zero, List.set_cons_succ]
          refine heldE_take 6 (oi := _) (v := ?_) rfl (by kernel_rfl) (by kernel_rfl) (by kernel_rfl) (by kernel_rfl) (fun _ _ _ h => h) (by rfl) (fun w hSw => ?_) (by assumption) ?_
          rotate_left
          · (try dsimp only at hSw); go_simp; try with_reducible rfl
          try simp only [Act.put, List.setIfInBounds_toArray, List.set_cons_zero, List.set_cons_succ]
          refine heldE_take 7 (oi := _) (v := ?_) rfl (by kernel_rfl) (by kernel_rfl) (by kernel_rfl) (by kernel_rfl) (fun _ _ _ h => h) (by rfl) (fun w hSw => ?_) (by assumption) ?_
          rotate_left
          · (try dsimp only at hSw); go_simp; try with_reducible rfl
          try simp only [Act.put, List.setIfInBounds_toArray, List.set_cons_zero, List.set_cons_succ]
          refine heldE_take 9 (oi := _) (v := ?_) rfl (by kernel_rfl) (by kernel_rfl) (by kernel_rfl) (by kernel_rfl) (fun _ _ _ h => h) (by rfl) (fun w hSw => ?_) (by assumption) ?_
          rotate_left
          · (try dsimp only at hSw); go_simp; try with_reducible rfl
          try simp only [Act.put, List.setIfInBounds_toArray, List.set_cons_zero, List.set_cons_succ]
          refine heldE_take 12 (oi := _) (v := ?_) rfl (by kernel_rfl) (by kernel_rfl) (by kernel_rfl) (by kernel_rfl) (fun _ _ _ h => h) (by rfl) (fun w hSw => ?_) (by assumption) ?_
          rotate_left
          · (try dsimp only at hSw); go_simp; try with_reducible rfl
          try simp only [Act.put, List.setIfInBounds_toArray, List.set_cons_zero, List.set_cons_succ]
          refine heldE_take 13 (oi := _) (v := ?_) rfl (by kernel_rfl) (by kernel_rfl) (by kernel_rfl) (by kernel_rfl) (fun _ _ _ h => h) (by rfl) (fun w hSw => ?_) (by assumption) ?_
          rotate_left
          · (try dsimp only at hSw); go_simp; try with_reducible rfl
          try simp only [Act.put, List.setIfInBounds_toArray, List.set_cons_zero, List.set_cons_succ]
          refine heldE_take 14 (oi := _) (v := ?_) rfl (by kernel_rfl) (by kernel_rfl) (by kernel_rfl) (by kernel_rfl) (fun _ _ _ h => h) (by rfl) (fun w hSw => ?_) (by assumption) ?_
          rotate_left
          · (try dsimp only at hSw); go_simp; try with_reducible rfl
          try simp only [Act.put, List.setIfInBounds_toArray, List.set_cons_zero, List.set_cons_succ]
          refine heldE_take 15 (oi := _) (v := ?_) rfl (by kernel_rfl) (by kernel_rfl) (by kernel_rfl) (by kernel_rfl) (fun _ _ _ h => h) (by rfl) (fun w hSw => ?_) (by assumption) ?_
          rotate_left
          · (try dsimp only at hSw); go_simp; try with_reducible rfl
          try simp only [Act.put, List.setIfInBounds_toArray, List.set_cons_zero, List.set_cons_succ]
          refine heldE_take 16 (oi := _) (v := ?_) rfl (by kernel_rfl) (by kernel_rfl) (by kernel_rfl) (by kernel_rfl) (fun _ _ _ h => h) (by rfl) (fun w hSw => ?_) (by assumption) ?_
          rotate_left
          · (try dsimp only at hSw); go_simp; try with_reducible rfl
          try simp only [Act.put, List.setIfInBounds_toArray, List.set_cons_zero, List.set_cons_succ]
          refine heldE_take 17 (oi := _) (v := ?_) rfl (by kernel_rfl) (by kernel_rfl) (by kernel_rfl) (by kernel_rfl) (fun _ _ _ h => h) (by rfl) (fun w hSw => ?_) (by assumption) ?_
          rotate_left
          · (try dsimp only at hSw); go_simp; try with_reducible rfl
          try simp only [Act.put, List.setIfInBounds_toArray, List.set_cons_zero, List.set_cons_succ]
          refine wpAnyE_ready (rs := [1, 10]) (by kernel_rfl) (by simp) ?_
          refine heldE_cons 1 (o := _) rfl (fun KC hKC => ?_) (heldE_cons 10 (o := _) rfl (fun KC hKC => ?_) AllReadyE.nil)
          ·
            go_simp
            first | refine alloc_abs (K := KC _) ?_ | refine alloc_absD (K := KC _) ?_
            intro wE kE hE
            have TE := Lib.hid (show Kept (fun _ => False) w2 wE from by first | exact TY.out.trans kE (fun _ _ e => e) | exact kE)
            have FE := Lib.hid (by first | exact own_fresh (n := 0) (c := 0) TY.out.size | exact own_fresh (n := 0) (c := 0) (Nat.le_refl w2.heap.size))
            have KE := Lib.hid kE
            have HE := Lib.hid hE
            clear kE hE
            refine hKC.out _ _ ?_ (fun hHeld => ?_)
            · first | exact (CB.out _ T18.out).1 | exact (CB.out _ T11.out).1 | exact (CB.out _ TY.out).1 | exact (CB.out _ TE.out).1 | exact (CB.out _ T8.out).1
            clear hKC KC
            try simp only [Act.put, List.setIfInBounds_toArray, List.set_cons_zero, List.set_cons_succ]
            refine wpAnyE_ready (rs := [8, 10]) (by kernel_rfl) (by simp) ?_
            refine heldE_cons 8 (o := _) rfl (fun KC hKC => ?_) (heldE_cons 10 (o := _) rfl (fun KC hKC => ?_) AllReadyE.nil)
            ·
              refine step_append_mine rfl (.tmp 136) (.tmp 142) rentE rfl rfl (by first | exact own_empty_at HE.out | exact own_empty_at (kept_block KY.out HE.out)) _ j _ (ptrs A) rfl (by rw [ptrs_len, HI.out, Nat.mul_one]) (by first | exact (HH.out _ TE.out).1 | exact (HH.out _ TY.out).1) (ptrs_one A) (by unfold maxLen; omega) (by omega) ?_
              intro a1 c1 w8 o8 k8 b8
              rw [Nat.zero_add] at o8 b8
              simp only [List.nil_append] at o8
              have T8 := Lib.hid (show Kept (fun _ => False) w2 w8 from by first | exact kept_own TE.out FE.out k8 | exact kept_own TY.out FE.out k8)
              have F8 := Lib.hid (by first | exact own_or FE.out TE.out.size b8 | exact own_or FE.out TY.out.size b8)
              have K8 := Lib.hid k8
              have O8 := Lib.hid o8
              clear o8 k8 b8
              try simp only [Nat.zero_add]
              refine hKC.out _ _ ?_ (fun hHeld => ?_)
              · first | exact (CB.out _ T18.out).1 | exact (CB.out _ T11.out).1 | exact (CB.out _ TY.out).1 | exact (CB.out _ TE.out).1 | exact (CB.out _ T8.out).1
              clear hKC KC
              try simp only [Act.put, List.setIfInBounds_toArray, List.set_cons_zero, List.set_cons_succ]
              refine wpAnyE_ready (rs := [10]) (by kernel_rfl) (by simp) ?_
              refine heldE_cons 10 (o := _) rfl (fun KC hKC => ?_) AllReadyE.nil
              go_simp
              first | refine alloc_abs (K := KC _) ?_ | refine alloc_absD (K := KC _) ?_
              intro wY kY hY
              have TY := Lib.hid (show Kept (fun _ => False) w2 wY from by first | exact T8.out.trans kY (fun _ _ e => e) | exact TE.out.trans kY (fun _ _ e => e) | exact kY)
              have KY := Lib.hid kY
              have HY := Lib.hid hY
              clear kY hY
              refine hKC.out _ _ ?_ (fun hHeld => ?_)
              · first | exact (CB.out _ T18.out).1 | exact (CB.out _ T11.out).1 | exact (CB.out _ TY.out).1 | exact (CB.out _ TE.out).1 | exact (CB.out _ T8.out).1
              clear hKC KC
              try simp only [Act.put, List.setIfInBounds_toArray, List.set_cons_zero, List.set_cons_succ]
              refine wpAnyE_ready (rs := [11]) (by kernel_rfl) (by simp) ?_
              refine heldE_cons 11 (o := _) rfl (fun KC hKC => ?_) AllReadyE.nil
              refine step_append_mine rfl (.tmp 143) (.tmp 145) rentE rfl rfl (by first | exact ownsRow_kept O8.out KY.out (fun _ _ e => e) | exact O8.out) (some ⟨_, 0, none⟩) 1 1 [.pointer (some ⟨yb, 0, none⟩)] rfl rfl (by first | exact holds_block HY.out | exact hold_one (kept_block KY.out HE.out) HY.out K8.out | exact hold_one HE.out (kept_block KE.out HY.out) K8.out) (by simp [Value.oneCell']) (by unfold maxLen; omega) (by omega) ?_
              intro a3 c3 w11 o11 k11 b11
              have T11 := Lib.hid (show Kept (fun _ => False) w2 w11 from by first | exact kept_own T8.out F8.out k11 | exact kept_own TY.out F8.out k11)
              have F11 := Lib.hid (by first | exact own_or F8.out T8.out.size b11 | exact own_or F8.out TY.out.size b11)
              have O11 := Lib.hid o11
              clear o11 k11 b11
              refine hKC.out _ _ ?_ (fun hHeld => ?_)
              · first | exact (CB.out _ T18.out).1 | exact (CB.out _ T11.out).1 | exact (CB.out _ TY.out).1 | exact (CB.out _ TE.out).1 | exact (CB.out _ T8.out).1
              clear hKC KC
              try simp only [Act.put, List.setIfInBounds_toArray, List.set_cons_zero, List.set_cons_succ]
              refine wpAnyE_ready (rs := [18]) (by kernel_rfl) (by simp) ?_
              refine heldE_cons 18 (o := _) rfl (fun KC hKC => ?_) AllReadyE.nil
              refine step_append_mine rfl (.tmp 146) (.tmp 152) rentE rfl rfl O11.out _ n _ (ptrs B) rfl (by rw [ptrs_len, HNB.out, Nat.mul_one]) (by exact (HH.out _ T11.out).2) (ptrs_one B) (by unfold maxLen; omega) (by omega) ?_
              intro a5 c5 w18 o18 k18 b18
              have T18 := Lib.hid (kept_own T11.out F11.out k18)
              have F18 := Lib.hid (own_or F11.out T11.out.size b18)
              have O18 := Lib.hid o18
              obtain ⟨hc18, hf18⟩ := CB.out _ T18.out
              clear o18 k18 b18
              refine hKC.out _ _ ?_ (fun hHeld => ?_)
              · first | exact (CB.out _ T18.out).1 | exact (CB.out _ T11.out).1 | exact (CB.out _ TY.out).1 | exact (CB.out _ TE.out).1 | exact (CB.out _ T8.out).1
              clear hKC KC
              try simp only [Act.put, List.setIfInBounds_toArray, List.set_cons_zero, List.set_cons_succ]
              refine wpAnyE_ready (rs := [19]) (by kernel_rfl) (by simp) ?_
              refine heldE_cons 19 (o := _) rfl (fun KC hKC => ?_) AllReadyE.nil
              go_simp
              refine hKC.out _ _ ?_ (fun hHeld => ?_)
              · first | exact (CB.out _ T18.out).1 | exact (CB.out _ T11.out).1 | exact (CB.out _ TY.out).1 | exact (CB.out _ TE.out).1 | exact (CB.out _ T8.out).1
              clear hKC KC
              try simp only [Act.put, List.setIfInBounds_toArray, List.set_cons_zero, List.set_cons_succ]
              refine heldE_take 20 (oi := _) (v := ?_) rfl (by kernel_rfl) (by kernel_rfl) (by kernel_rfl) (by kernel_rfl) (fun _ _ _ h => h) (by rfl) (fun w hSw => ?_) (by assumption) ?_
              rotate_left
              · (try dsimp only at hSw); go_simp; try with_reducible rfl
              try simp only [Act.put, List.setIfInBounds_toArray, List.set_cons_zero, List.set_cons_succ]
              refine wpAnyE_ready (rs := [21]) (by kernel_rfl) (by simp) ?_
              refine heldE_last (o := _) rfl (fun KC hKC => ?_) AllReadyE.nil
              go_simp
              refine hKC.out _ _ ?_
              clear hKC KC
              try simp only [Act.put, List.setIfInBounds_toArray, List.set_cons_zero, List.set_cons_succ]
              refine wpAnyE_done (by kernel_rfl) (NoPanic.normal ?_) _
              clear hc18 hf18
              generalize (if c = j then a else Option.map (fun x : Addr => x.add j) a) = xa
              have o18 := O18.out
              rw [show ptrs A ++ [.pointer (some ⟨yb, 0, none⟩)] ++ ptrs B = ptrs (A ++ (⟨yb, yd, cap, k, v⟩ : En) :: B) from by rw [ptrs_append, List.append_assoc]; rfl] at o18
              have hRaw2 := RT.raw T2.out.1 T18.out o18 F18.out
              obtain ⟨w3, hw3⟩ : ∃ w3, (World.setCell w18 ⟨bt, 5, none⟩ (Value.slice a5 (j + 1 + n) c5)) = w3 := ⟨_, rfl⟩
              rw [hw3] at hRaw2 ⊢
              obtain ⟨M, hM⟩ : ∃ M, j + 1 + n = M := ⟨_, rfl⟩
              have hMN : M = (A ++ B).length + 1 := by rw [HN.out]; omega
              rw [hM] at hRaw2
              have f5 := hRaw2.c5
              have f4 := hRaw2.c4
              have RAW := Lib.hid hRaw2
              have HMN := Lib.hid hMN
              have hM9 : M ≤ 2000 := by omega
              clear hRaw2 hw3 e1 e5 o18 hM hMN hsub hjc hjN'
              have hsp : ((M : Int) ≤ m.mx) ∨ m.mx < (M : Int) := by omega
              rcases hsp with hle | hgt
              · have hdm : decide (m.mx < (M : Int)) = false := by simp; omega
                go_wp2_with fail
                go_quiet (fail)
                go_wp2_with fail
                go_ret
                have hI := rins_room T2.out.1 T2.out.2.1 T2.out.2.2.1 T2.out.2.2.2.1 T2.out.2.2.2.2.1 T2.out.2.2.2.2.2 rfl rfl H.out RAW.out HMN.out (by have := HMN.out; omega) HK.out HG.out.1 HG.out.2.1 HG.out.2.2.1 HG.out.2.2.2 H1.out
                exact ⟨rfl, hI.drewN _⟩
              · have hdm : decide (m.mx < (M : Int)) = true := by simp; omega
                go_wp2_with fail
                go_quiet (fail)
                obtain ⟨w4, hw4⟩ : ∃ w4, w3.drewN nq = w4 := ⟨_, rfl⟩
                have hR4 := RAW.out.keep (show Kept (fun _ => False) w3 w4 from by rw [← hw4]; exact (Kept.refl _ _).drewN _)
                try rw [hw4]
                obtain ⟨x0, tl, htl⟩ : ∃ x0 tl, A ++ (⟨yb, yd, cap, k, v⟩ : En) :: B = x0 :: tl := by cases A <;> exact ⟨_, _, rfl⟩
                have hlM : (x0 :: tl).length = M := by rw [← htl, HMN.out]; simp <;> omega
                rw [htl] at hR4
                have WO := Lib.hid (show Calls Tryz.prog 45 #[.pointer (some ⟨bt, 0, none⟩), .int .i64 0] w4 _ from rt_without_raw (l1 := []) (x := x0) (l2 := tl) hR4.c5 hR4.row (by show w4.ownsRow 0 _ 1 _ (x0 :: tl).length (ptrs (x0 :: tl)); rw [hlM]; exact hR4.own) hR4.ne (by show (x0 :: tl).length ≤ 2000; omega))
                have R4 := Lib.hid hR4
                have HTL := Lib.hid (And.intro htl hlM)
                clear hR4 hw4 htl hlM f4 f5
                go_wp2_with fail
                refine WO.out.mono ?_
                rintro e w5 ⟨r5, rfl, hr5, k5, fr5⟩
                have hR5 := R4.out.keep k5
                have g5 := hR5.c5
                have gf5 := hR5.row.frozen 5
                obtain ⟨a6, c6, rfl, -⟩ := own_form hr5
                obtain ⟨M6, hM6⟩ : ∃ M6, ([] ++ tl).length = M6 := ⟨_, rfl⟩
                rw [hM6] at hr5 fr5 ⊢
                have hR6 := hR5.store (L' := tl) hr5 (fun b e => Nat.le_trans (Nat.le_of_lt_succ (Nat.lt_succ_of_le R4.out.kept.size)) (fr5 b e))
                have R6 := Lib.hid hR6
                have HM6 := Lib.hid hM6
                clear hR5 hr5 k5 fr5 hR6 hM6
                go_wp2_with fail
                go_ret
                have hR7 := R6.out
                rw [show tl = (A ++ (⟨yb, yd, cap, k, v⟩ : En) :: B).tail from by rw [HTL.out.1]; rfl] at hR7
                refine ⟨rfl, rins_full T2.out.1 T2.out.2.1 T2.out.2.2.1 T2.out.2.2.2.1 T2.out.2.2.2.2.1 T2.out.2.2.2.2.2 rfl rfl H.out hR7 ?_ (by have := HMN.out; omega) HK.out HG.out.1 HG.out.2.1 HG.out.2.2.1 HG.out.2.2.2 H1.out⟩
                have h1 := HTL.out.2
                have h2 := HMN.out
                rw [← HM6.out]
                simp only [List.nil_append, List.length_cons] at h1 ⊢
                omega
            ·
              go_simp
              first | refine alloc_abs (K := KC _) ?_ | refine alloc_absD (K := KC _) ?_
              intro wY kY hY
              have TY := Lib.hid (show Kept (fun _ => False) w2 wY from by first | exact T8.out.trans kY (fun _ _ e => e) | exact TE.out.trans kY (fun _ _ e => e) | exact kY)
              have KY := Lib.hid kY
              have HY := Lib.hid hY
              clear kY hY
              refine hKC.out _ _ ?_ (fun hHeld => ?_)
              · first | exact (CB.out _ T18.out).1 | exact (CB.out _ T11.out).1 | exact (CB.out _ TY.out).1 | exact (CB.out _ TE.out).1 | exact (CB.out _ T8.out).1
              clear hKC KC
              try simp only [Act.put, List.setIfInBounds_toArray, List.set_cons_zero, List.set_cons_succ]
              refine wpAnyE_ready (rs := [8]) (by kernel_rfl) (by simp) ?_
              refine heldE_cons 8 (o := _) rfl (fun KC hKC => ?_) AllReadyE.nil
              refine step_append_mine rfl (.tmp 136) (.tmp 142) rentE rfl rfl (by first | exact own_empty_at HE.out | exact own_empty_at (kept_block KY.out HE.out)) _ j _ (ptrs A) rfl (by rw [ptrs_len, HI.out, Nat.mul_one]) (by first | exact (HH.out _ TE.out).1 | exact (HH.out _ TY.out).1) (ptrs_one A) (by unfold maxLen; omega) (by omega) ?_
              intro a1 c1 w8 o8 k8 b8
              rw [Nat.zero_add] at o8 b8
              simp only [List.nil_append] at o8
              have T8 := Lib.hid (show Kept (fun _ => False) w2 w8 from by first | exact kept_own TE.out FE.out k8 | exact kept_own TY.out FE.out k8)
              have F8 := Lib.hid (by first | exact own_or FE.out TE.out.size b8 | exact own_or FE.out TY.out.size b8)
              have K8 := Lib.hid k8
              have O8 := Lib.hid o8
              clear o8 k8 b8
              try simp only [Nat.zero_add]
              refine hKC.out _ _ ?_ (fun hHeld => ?_)
              · first | exact (CB.out _ T18.out).1 | exact (CB.out _ T11.out).1 | exact (CB.out _ TY.out).1 | exact (CB.out _ TE.out).1 | exact (CB.out _ T8.out).1
              clear hKC KC
              try simp only [Act.put, List.setIfInBounds_toArray, List.set_cons_zero, List.set_cons_succ]
              refine wpAnyE_ready (rs := [11]) (by kernel_rfl) (by simp) ?_
              refine heldE_cons 11 (o := _) rfl (fun KC hKC => ?_) AllReadyE.nil
              refine step_append_mine rfl (.tmp 143) (.tmp 145) rentE rfl rfl (by first | exact ownsRow_kept O8.out KY.out (fun _ _ e => e) | exact O8.out) (some ⟨_, 0, none⟩) 1 1 [.pointer (some ⟨yb, 0, none⟩)] rfl rfl (by first | exact holds_block HY.out | exact hold_one (kept_block KY.out HE.out) HY.out K8.out | exact hold_one HE.out (kept_block KE.out HY.out) K8.out) (by simp [Value.oneCell']) (by unfold maxLen; omega) (by omega) ?_
              intro a3 c3 w11 o11 k11 b11
              have T11 := Lib.hid (show Kept (fun _ => False) w2 w11 from by first | exact kept_own T8.out F8.out k11 | exact kept_own TY.out F8.out k11)
              have F11 := Lib.hid (by first | exact own_or F8.out T8.out.size b11 | exact own_or F8.out TY.out.size b11)
              have O11 := Lib.hid o11
              clear o11 k11 b11
              refine hKC.out _ _ ?_ (fun hHeld => ?_)
              · first | exact (CB.out _ T18.out).1 | exact (CB.out _ T11.out).1 | exact (CB.out _ TY.out).1 | exact (CB.out _ TE.out).1 | exact (CB.out _ T8.out).1
              clear hKC KC
              try simp only [Act.put, List.setIfInBounds_toArray, List.set_cons_zero, List.set_cons_succ]
              refine wpAnyE_ready (rs := [18]) (by kernel_rfl) (by simp) ?_
              refine heldE_cons 18 (o := _) rfl (fun KC hKC => ?_) AllReadyE.nil
              refine step_append_mine rfl (.tmp 146) (.tmp 152) rentE rfl rfl O11.out _ n _ (ptrs B) rfl (by rw [ptrs_len, HNB.out, Nat.mul_one]) (by exact (HH.out _ T11.out).2) (ptrs_one B) (by unfold maxLen; omega) (by omega) ?_
              intro a5 c5 w18 o18 k18 b18
              have T18 := Lib.hid (kept_own T11.out F11.out k18)
              have F18 := Lib.hid (own_or F11.out T11.out.size b18)
              have O18 := Lib.hid o18
              obtain ⟨hc18, hf18⟩ := CB.out _ T18.out
              clear o18 k18 b18
              refine hKC.out _ _ ?_ (fun hHeld => ?_)
              · first | exact (CB.out _ T18.out).1 | exact (CB.out _ T11.out).1 | exact (CB.out _ TY.out).1 | exact (CB.out _ TE.out).1 | exact (CB.out _ T8.out).1
              clear hKC KC
              try simp only [Act.put, List.setIfInBounds_toArray, List.set_cons_zero, List.set_cons_succ]
              refine wpAnyE_ready (rs := [19]) (by kernel_rfl) (by simp) ?_
              refine heldE_cons 19 (o := _) rfl (fun KC hKC => ?_) AllReadyE.nil
              go_simp
              refine hKC.out _ _ ?_ (fun hHeld => ?_)
              · first | exact (CB.out _ T18.out).1 | exact (CB.out _ T11.out).1 | exact (CB.out _ TY.out).1 | exact (CB.out _ TE.out).1 | exact (CB.out _ T8.out).1
              clear hKC KC
              try simp only [Act.put, List.setIfInBounds_toArray, List.set_cons_zero, List.set_cons_succ]
              refine heldE_take 20 (oi := _) (v := ?_) rfl (by kernel_rfl) (by kernel_rfl) (by kernel_rfl) (by kernel_rfl) (fun _ _ _ h => h) (by rfl) (fun w hSw => ?_) (by assumption) ?_
              rotate_left
              · (try dsimp only at hSw); go_simp; try with_reducible rfl
              try simp only [Act.put, List.setIfInBounds_toArray, List.set_cons_zero, List.set_cons_succ]
              refine wpAnyE_ready (rs := [21]) (by kernel_rfl) (by simp) ?_
              refine heldE_last (o := _) rfl (fun KC hKC => ?_) AllReadyE.nil
              go_simp
              refine hKC.out _ _ ?_
              clear hKC KC
              try simp only [Act.put, List.setIfInBounds_toArray, List.set_cons_zero, List.set_cons_succ]
              refine wpAnyE_done (by kernel_rfl) (NoPanic.normal ?_) _
              clear hc18 hf18
              generalize (if c = j then a else Option.map (fun x : Addr => x.add j) a) = xa
              have o18 := O18.out
              rw [show ptrs A ++ [.pointer (some ⟨yb, 0, none⟩)] ++ ptrs B = ptrs (A ++ (⟨yb, yd, cap, k, v⟩ : En) :: B) from by rw [ptrs_append, List.append_assoc]; rfl] at o18
              have hRaw2 := RT.raw T2.out.1 T18.out o18 F18.out
              obtain ⟨w3, hw3⟩ : ∃ w3, (World.setCell w18 ⟨bt, 5, none⟩ (Value.slice a5 (j + 1 + n) c5)) = w3 := ⟨_, rfl⟩
              rw [hw3] at hRaw2 ⊢
              obtain ⟨M, hM⟩ : ∃ M, j + 1 + n = M := ⟨_, rfl⟩
              have hMN : M = (A ++ B).length + 1 := by rw [HN.out]; omega
              rw [hM] at hRaw2
              have f5 := hRaw2.c5
              have f4 := hRaw2.c4
              have RAW := Lib.hid hRaw2
              have HMN := Lib.hid hMN
              have hM9 : M ≤ 2000 := by omega
              clear hRaw2 hw3 e1 e5 o18 hM hMN hsub hjc hjN'
              have hsp : ((M : Int) ≤ m.mx) ∨ m.mx < (M : Int) := by omega
              rcases hsp with hle | hgt
              · have hdm : decide (m.mx < (M : Int)) = false := by simp; omega
                go_wp2_with fail
                go_quiet (fail)
                go_wp2_with fail
                go_ret
                have hI := rins_room T2.out.1 T2.out.2.1 T2.out.2.2.1 T2.out.2.2.2.1 T2.out.2.2.2.2.1 T2.out.2.2.2.2.2 rfl rfl H.out RAW.out HMN.out (by have := HMN.out; omega) HK.out HG.out.1 HG.out.2.1 HG.out.2.2.1 HG.out.2.2.2 H1.out
                exact ⟨rfl, hI.drewN _⟩
              · have hdm : decide (m.mx < (M : Int)) = true := by simp; omega
                go_wp2_with fail
                go_quiet (fail)
                obtain ⟨w4, hw4⟩ : ∃ w4, w3.drewN nq = w4 := ⟨_, rfl⟩
                have hR4 := RAW.out.keep (show Kept (fun _ => False) w3 w4 from by rw [← hw4]; exact (Kept.refl _ _).drewN _)
                try rw [hw4]
                obtain ⟨x0, tl, htl⟩ : ∃ x0 tl, A ++ (⟨yb, yd, cap, k, v⟩ : En) :: B = x0 :: tl := by cases A <;> exact ⟨_, _, rfl⟩
                have hlM : (x0 :: tl).length = M := by rw [← htl, HMN.out]; simp <;> omega
                rw [htl] at hR4
                have WO := Lib.hid (show Calls Tryz.prog 45 #[.pointer (some ⟨bt, 0, none⟩), .int .i64 0] w4 _ from rt_without_raw (l1 := []) (x := x0) (l2 := tl) hR4.c5 hR4.row (by show w4.ownsRow 0 _ 1 _ (x0 :: tl).length (ptrs (x0 :: tl)); rw [hlM]; exact hR4.own) hR4.ne (by show (x0 :: tl).length ≤ 2000; omega))
                have R4 := Lib.hid hR4
                have HTL := Lib.hid (And.intro htl hlM)
                clear hR4 hw4 htl hlM f4 f5
                go_wp2_with fail
                refine WO.out.mono ?_
                rintro e w5 ⟨r5, rfl, hr5, k5, fr5⟩
                have hR5 := R4.out.keep k5
                have g5 := hR5.c5
                have gf5 := hR5.row.frozen 5
                obtain ⟨a6, c6, rfl, -⟩ := own_form hr5
                obtain ⟨M6, hM6⟩ : ∃ M6, ([] ++ tl).length = M6 := ⟨_, rfl⟩
                rw [hM6] at hr5 fr5 ⊢
                have hR6 := hR5.store (L' := tl) hr5 (fun b e => Nat.le_trans (Nat.le_of_lt_succ (Nat.lt_succ_of_le R4.out.kept.size)) (fr5 b e))
                have R6 := Lib.hid hR6
                have HM6 := Lib.hid hM6
                clear hR5 hr5 k5 fr5 hR6 hM6
                go_wp2_with fail
                go_ret
                have hR7 := R6.out
                rw [show tl = (A ++ (⟨yb, yd, cap, k, v⟩ : En) :: B).tail from by rw [HTL.out.1]; rfl] at hR7
                refine ⟨rfl, rins_full T2.out.1 T2.out.2.1 T2.out.2.2.1 T2.out.2.2.2.1 T2.out.2.2.2.2.1 T2.out.2.2.2.2.2 rfl rfl H.out hR7 ?_ (by have := HMN.out; omega) HK.out HG.out.1 HG.out.2.1 HG.out.2.2.1 HG.out.2.2.2 H1.out⟩
                have h1 := HTL.out.2
                have h2 := HMN.out
                rw [← HM6.out]
                simp only [List.nil_append, List.length_cons] at h1 ⊢
                omega
          ·
            go_simp
            first | refine alloc_abs (K := KC _) ?_ | refine alloc_absD (K := KC _) ?_
            intro wY kY hY
            have TY := Lib.hid (show Kept (fun _ => False) w2 wY from by first | exact T8.out.trans kY (fun _ _ e => e) | exact TE.out.trans kY (fun _ _ e => e) | exact kY)
            have KY := Lib.hid kY
            have HY := Lib.hid hY
            clear kY hY
            refine hKC.out _ _ ?_ (fun hHeld => ?_)
            · first | exact (CB.out _ T18.out).1 | exact (CB.out _ T11.out).1 | exact (CB.out _ TY.out).1 | exact (CB.out _ TE.out).1 | exact (CB.out _ T8.out).1
            clear hKC KC
            try simp only [Act.put, List.setIfInBounds_toArray, List.set_cons_zero, List.set_cons_succ]
            refine wpAnyE_ready (rs := [1]) (by kernel_rfl) (by simp) ?_
            refine heldE_cons 1 (o := _) rfl (fun KC hKC => ?_) AllReadyE.nil
            go_simp
            first | refine alloc_abs (K := KC _) ?_ | refine alloc_absD (K := KC _) ?_
            intro wE kE hE
            have TE := Lib.hid (show Kept (fun _ => False) w2 wE from by first | exact TY.out.trans kE (fun _ _ e => e) | exact kE)
            have FE := Lib.hid (by first | exact own_fresh (n := 0) (c := 0) TY.out.size | exact own_fresh (n := 0) (c := 0) (Nat.le_refl w2.heap.size))
            have KE := Lib.hid kE
            have HE := Lib.hid hE
            clear kE hE
            refine hKC.out _ _ ?_ (fun hHeld => ?_)
            · first | exact (CB.out _ T18.out).1 | exact (CB.out _ T11.out).1 | exact (CB.out _ TY.out).1 | exact (CB.out _ TE.out).1 | exact (CB.out _ T8.out).1
            clear hKC KC
            try simp only [Act.put, List.setIfInBounds_toArray, List.set_cons_zero, List.set_cons_succ]
            refine wpAnyE_ready (rs := [8]) (by kernel_rfl) (by simp) ?_
            refine heldE_cons 8 (o := _) rfl (fun KC hKC => ?_) AllReadyE.nil
            refine step_append_mine rfl (.tmp 136) (.tmp 142) rentE rfl rfl (by first | exact own_empty_at HE.out | exact own_empty_at (kept_block KY.out HE.out)) _ j _ (ptrs A) rfl (by rw [ptrs_len, HI.out, Nat.mul_one]) (by first | exact (HH.out _ TE.out).1 | exact (HH.out _ TY.out).1) (ptrs_one A) (by unfold maxLen; omega) (by omega) ?_
            intro a1 c1 w8 o8 k8 b8
            rw [Nat.zero_add] at o8 b8
            simp only [List.nil_append] at o8
            have T8 := Lib.hid (show Kept (fun _ => False) w2 w8 from by first | exact kept_own TE.out FE.out k8 | exact kept_own TY.out FE.out k8)
            have F8 := Lib.hid (by first | exact own_or FE.out TE.out.size b8 | exact own_or FE.out TY.out.size b8)
            have K8 := Lib.hid k8
            have O8 := Lib.hid o8
            clear o8 k8 b8
            try simp only [Nat.zero_add]
            refine hKC.out _ _ ?_ (fun hHeld => ?_)
            · first | exact (CB.out _ T18.out).1 | exact (CB.out _ T11.out).1 | exact (CB.out _ TY.out).1 | exact (CB.out _ TE.out).1 | exact (CB.out _ T8.out).1
            clear hKC KC
            try simp only [Act.put, List.setIfInBounds_toArray, List.set_cons_zero, List.set_cons_succ]
            refine wpAnyE_ready (rs := [11]) (by kernel_rfl) (by simp) ?_
            refine heldE_cons 11 (o := _) rfl (fun KC hKC => ?_) AllReadyE.nil
            refine step_append_mine rfl (.tmp 143) (.tmp 145) rentE rfl rfl (by first | exact ownsRow_kept O8.out KY.out (fun _ _ e => e) | exact O8.out) (some ⟨_, 0, none⟩) 1 1 [.pointer (some ⟨yb, 0, none⟩)] rfl rfl (by first | exact holds_block HY.out | exact hold_one (kept_block KY.out HE.out) HY.out K8.out | exact hold_one HE.out (kept_block KE.out HY.out) K8.out) (by simp [Value.oneCell']) (by unfold maxLen; omega) (by omega) ?_
            intro a3 c3 w11 o11 k11 b11
            have T11 := Lib.hid (show Kept (fun _ => False) w2 w11 from by first | exact kept_own T8.out F8.out k11 | exact kept_own TY.out F8.out k11)
            have F11 := Lib.hid (by first | exact own_or F8.out T8.out.size b11 | exact own_or F8.out TY.out.size b11)
            have O11 := Lib.hid o11
            clear o11 k11 b11
            refine hKC.out _ _ ?_ (fun hHeld => ?_)
            · first | exact (CB.out _ T18.out).1 | exact (CB.out _ T11.out).1 | exact (CB.out _ TY.out).1 | exact (CB.out _ TE.out).1 | exact (CB.out _ T8.out).1
            clear hKC KC
            try simp only [Act.put, List.setIfInBounds_toArray, List.set_cons_zero, List.set_cons_succ]
            refine wpAnyE_ready (rs := [18]) (by kernel_rfl) (by simp) ?_
            refine heldE_cons 18 (o := _) rfl (fun KC hKC => ?_) AllReadyE.nil
            refine step_append_mine rfl (.tmp 146) (.tmp 152) rentE rfl rfl O11.out _ n _ (ptrs B) rfl (by rw [ptrs_len, HNB.out, Nat.mul_one]) (by exact (HH.out _ T11.out).2) (ptrs_one B) (by unfold maxLen; omega) (by omega) ?_
            intro a5 c5 w18 o18 k18 b18
            have T18 := Lib.hid (kept_own T11.out F11.out k18)
            have F18 := Lib.hid (own_or F11.out T11.out.size b18)
            have O18 := Lib.hid o18
            obtain ⟨hc18, hf18⟩ := CB.out _ T18.out
            clear o18 k18 b18
            refine hKC.out _ _ ?_ (fun hHeld => ?_)
            · first | exact (CB.out _ T18.out).1 | exact (CB.out _ T11.out).1 | exact (CB.out _ TY.out).1 | exact (CB.out _ TE.out).1 | exact (CB.out _ T8.out).1
            clear hKC KC
            try simp only [Act.put, List.setIfInBounds_toArray, List.set_cons_zero, List.set_cons_succ]
            refine wpAnyE_ready (rs := [19]) (by kernel_rfl) (by simp) ?_
            refine heldE_cons 19 (o := _) rfl (fun KC hKC => ?_) AllReadyE.nil
            go_simp
            refine hKC.out _ _ ?_ (fun hHeld => ?_)
            · first | exact (CB.out _ T18.out).1 | exact (CB.out _ T11.out).1 | exact (CB.out _ TY.out).1 | exact (CB.out _ TE.out).1 | exact (CB.out _ T8.out).1
            clear hKC KC
            try simp only [Act.put, List.setIfInBounds_toArray, List.set_cons_zero, List.set_cons_succ]
            refine heldE_take 20 (oi := _) (v := ?_) rfl (by kernel_rfl) (by kernel_rfl) (by kernel_rfl) (by kernel_rfl) (fun _ _ _ h => h) (by rfl) (fun w hSw => ?_) (by assumption) ?_
            rotate_left
            · (try dsimp only at hSw); go_simp; try with_reducible rfl
            try simp only [Act.put, List.setIfInBounds_toArray, List.set_cons_zero, List.set_cons_succ]
            refine wpAnyE_ready (rs := [21]) (by kernel_rfl) (by simp) ?_
            refine heldE_last (o := _) rfl (fun KC hKC => ?_) AllReadyE.nil
            go_simp
            refine hKC.out _ _ ?_
            clear hKC KC
            try simp only [Act.put, List.setIfInBounds_toArray, List.set_cons_zero, List.set_cons_succ]
            refine wpAnyE_done (by kernel_rfl) (NoPanic.normal ?_) _
            clear hc18 hf18
            generalize (if c = j then a else Option.map (fun x : Addr => x.add j) a) = xa
            have o18 := O18.out
            rw [show ptrs A ++ [.pointer (some ⟨yb, 0, none⟩)] ++ ptrs B = ptrs (A ++ (⟨yb, yd, cap, k, v⟩ : En) :: B) from by rw [ptrs_append, List.append_assoc]; rfl] at o18
            have hRaw2 := RT.raw T2.out.1 T18.out o18 F18.out
            obtain ⟨w3, hw3⟩ : ∃ w3, (World.setCell w18 ⟨bt, 5, none⟩ (Value.slice a5 (j + 1 + n) c5)) = w3 := ⟨_, rfl⟩
            rw [hw3] at hRaw2 ⊢
            obtain ⟨M, hM⟩ : ∃ M, j + 1 + n = M := ⟨_, rfl⟩
            have hMN : M = (A ++ B).length + 1 := by rw [HN.out]; omega
            rw [hM] at hRaw2
            have f5 := hRaw2.c5
            have f4 := hRaw2.c4
            have RAW := Lib.hid hRaw2
            have HMN := Lib.hid hMN
            have hM9 : M ≤ 2000 := by omega
            clear hRaw2 hw3 e1 e5 o18 hM hMN hsub hjc hjN'
            have hsp : ((M : Int) ≤ m.mx) ∨ m.mx < (M : Int) := by omega
            rcases hsp with hle | hgt
            · have hdm : decide (m.mx < (M : Int)) = false := by simp; omega
              go_wp2_with fail
              go_quiet (fail)
              go_wp2_with fail
              go_ret
              have hI := rins_room T2.out.1 T2.out.2.1 T2.out.2.2.1 T2.out.2.2.2.1 T2.out.2.2.2.2.1 T2.out.2.2.2.2.2 rfl rfl H.out RAW.out HMN.out (by have := HMN.out; omega) HK.out HG.out.1 HG.out.2.1 HG.out.2.2.1 HG.out.2.2.2 H1.out
              exact ⟨rfl, hI.drewN _⟩
            · have hdm : decide (m.mx < (M : Int)) = true := by simp; omega
              go_wp2_with fail
              go_quiet (fail)
              obtain ⟨w4, hw4⟩ : ∃ w4, w3.drewN nq = w4 := ⟨_, rfl⟩
              have hR4 := RAW.out.keep (show Kept (fun _ => False) w3 w4 from by rw [← hw4]; exact (Kept.refl _ _).drewN _)
              try rw [hw4]
              obtain ⟨x0, tl, htl⟩ : ∃ x0 tl, A ++ (⟨yb, yd, cap, k, v⟩ : En) :: B = x0 :: tl := by cases A <;> exact ⟨_, _, rfl⟩
              have hlM : (x0 :: tl).length = M := by rw [← htl, HMN.out]; simp <;> omega
              rw [htl] at hR4
              have WO := Lib.hid (show Calls Tryz.prog 45 #[.pointer (some ⟨bt, 0, none⟩), .int .i64 0] w4 _ from rt_without_raw (l1 := []) (x := x0) (l2 := tl) hR4.c5 hR4.row (by show w4.ownsRow 0 _ 1 _ (x0 :: tl).length (ptrs (x0 :: tl)); rw [hlM]; exact hR4.own) hR4.ne (by show (x0 :: tl).length ≤ 2000; omega))
              have R4 := Lib.hid hR4
              have HTL := Lib.hid (And.intro htl hlM)
              clear hR4 hw4 htl hlM f4 f5
              go_wp2_with fail
              refine WO.out.mono ?_
              rintro e w5 ⟨r5, rfl, hr5, k5, fr5⟩
              have hR5 := R4.out.keep k5
              have g5 := hR5.c5
              have gf5 := hR5.row.frozen 5
              obtain ⟨a6, c6, rfl, -⟩ := own_form hr5
              obtain ⟨M6, hM6⟩ : ∃ M6, ([] ++ tl).length = M6 := ⟨_, rfl⟩
              rw [hM6] at hr5 fr5 ⊢
              have hR6 := hR5.store (L' := tl) hr5 (fun b e => Nat.le_trans (Nat.le_of_lt_succ (Nat.lt_succ_of_le R4.out.kept.size)) (fr5 b e))
              have R6 := Lib.hid hR6
              have HM6 := Lib.hid hM6
              clear hR5 hr5 k5 fr5 hR6 hM6
              go_wp2_with fail
              go_ret
              have hR7 := R6.out
              rw [show tl = (A ++ (⟨yb, yd, cap, k, v⟩ : En) :: B).tail from by rw [HTL.out.1]; rfl] at hR7
              refine ⟨rfl, rins_full T2.out.1 T2.out.2.1 T2.out.2.2.1 T2.out.2.2.2.1 T2.out.2.2.2.2.1 T2.out.2.2.2.2.2 rfl rfl H.out hR7 ?_ (by have := HMN.out; omega) HK.out HG.out.1 HG.out.2.1 HG.out.2.2.1 HG.out.2.2.2 H1.out⟩
              have h1 := HTL.out.2
              have h2 := HMN.out
              rw [← HM6.out]
              simp only [List.nil_append, List.length_cons] at h1 ⊢
              omega
  · rw [h2] at hc1
    have H2 := Lib.hid h2
    have HB0 := Lib.hid hB0
    clear h2 hroom hB0
    go_enter Tryz.func24, Tryz.ntmps24
    go_wp2_with fail
    refine (rt_find_miss H.out HK.out).mono ?_
    rintro e w' ⟨rfl, rfl⟩
    go_wp2_with fail
    go_quiet (fail)
    obtain ⟨w0, hw0⟩ : ∃ w0, w.drewN nq = w0 := ⟨_, rfl⟩
    have t0 : Twin w0 w := by rw [← hw0]; exact ⟨rfl, rfl, rfl, rfl⟩
    rw [hw0]
    clear hw0
    obtain ⟨cap, w1, hcv, k1, z1, hr1, hle1, hcap1, hby1⟩ := bytes_own w0 v HV.out
    have K1 := Lib.hid (And.intro k1 (And.intro z1 (And.intro hr1 (And.intro hle1 (And.intro hcap1 hby1)))))
    clear k1 z1 hr1 hle1 hcap1 hby1
    have hT1 := H.out.keep (((Kept.refl (fun _ => False) w).twin t0).trans K1.out.1 (fun _ _ e => e))
    have ka := Kept.one_alloc w1 (.cells #[.string k, .slice (some ⟨w0.heap.size, 0, none⟩) v.size cap] 82)
    have e5 := (hT1.keep ka).c5
    have e1 := (hT1.keep ka).c1
    rw [H2.out] at e1
    rw [HN.out] at e5
    have T1 := Lib.hid (And.intro hT1 t0)
    clear hT1 t0 hc1 hc2 hc3 hc4 hc5
    go_wp2_with fail
    obtain ⟨yb, hyb⟩ : ∃ yb, w1.heap.size = yb := ⟨_, rfl⟩
    obtain ⟨yd, hyd⟩ : ∃ yd, w0.heap.size = yd := ⟨_, rfl⟩
    have hEn := ren_bytes (k := k) 82 (n := v.size) K1.out.2.2.1 rfl K1.out.2.2.2.1 K1.out.2.2.2.2.1 K1.out.2.2.2.2.2
    obtain ⟨w2, hw2⟩ : ∃ w2, w1.alloc (.cells #[.string k, .slice (some ⟨w0.heap.size, 0, none⟩) v.size cap] 82) = w2 := ⟨_, rfl⟩
    rw [hw2] at ka e5 e1 hEn ⊢
    rw [hyb] at hEn ⊢
    rw [hyd] at hEn ⊢
    have T2 := Lib.hid (show RT w2 bt m (.slice a N c) (A ++ B) ∧ Kept (fun _ => False) w w2 ∧ EnAt w2 ⟨yb, yd, cap, k, v⟩ ∧ w.heap.size ≤ yb ∧ w.heap.size ≤ yd ∧ yd ≠ yb from by
      have h := T1.out.1.keep ka
      rw [HN.out] at h
      have z0 : w0.heap.size = w.heap.size := by rw [T1.out.2.heap]
      have z1 := K1.out.2.1
      exact ⟨h, (((Kept.refl (fun _ => False) w).twin T1.out.2).trans K1.out.1 (fun _ _ e => e)).trans ka (fun _ _ e => e), hEn, by omega, by omega, by omega⟩)
    clear hw2 hyb hyd ka hEn
    obtain ⟨i, hi⟩ : ∃ i, A.length = i := ⟨_, rfl⟩
    have hiN : i ≤ N := by rw [← hi, ← HN.out]; simp
    have HI := Lib.hid hi
    obtain ⟨n, hn⟩ : ∃ n, B.length = n := ⟨_, rfl⟩
    have hin : i + n = N := by rw [← hi, ← hn, ← HN.out]; simp
    have HNB := Lib.hid hn
    have hsub : N - i = n := by omega
    have hcN : N ≤ c := by obtain ⟨a', c', e, -, -, h⟩ := own_form T2.out.1.own; cases e; rw [← HN.out]; exact h
    have HH := Lib.hid (ins_holds T2.out.1 hi)
    have CB := Lib.hid (show ∀ w', Kept (fun _ => False) w2 w' → w'.cell? ⟨bt, 5, none⟩ = some (.slice a N c) ∧ w'.frozen? ⟨bt, 5, none⟩ = false from fun w' q => ⟨(T2.out.1.keep q).c5, (T2.out.1.keep q).row.frozen 5⟩)
    clear hi hn
    have hn0 : n = 0 := by rw [← HNB.out, HB0.out]; rfl
    obtain rfl : i = N := by omega
    clear hin hiN
    go_loop [13] (fun t => t = .int .i64 (i : Nat)) (fun t => 0)
    case atStart => exact rfl
    case round =>
      obtain rfl := hrel
      have hjc : i ≤ c := hcN
      go_wp2_with fail
      refine wp_region_heldE 21 (S := fun w' => w'.cell? ⟨bt, 5, none⟩ = some (.slice a i c)) (by kernel_rfl) ?_ (fun hHeld => ?_)
      · exact (CB.out _ ((Kept.refl (fun _ => False) w2).drew)).1
      refine heldE_take 0 (oi := _) (v := ?_) rfl (by kernel_rfl) (by kernel_rfl) (by kernel_rfl) (by kernel_rfl) (fun _ _ _ h => h) (by rfl) (fun w hSw => ?_) (by assumption) ?_
      rotate_left
      · (try dsimp only at hSw); go_simp; try with_reducible rfl
      try simp only [Act.put, List.setIfInBounds_toArray, List.set_cons_zero, List.set_cons_succ]
      refine heldE_take 2 (oi := _) (v := ?_) rfl (by kernel_rfl) (by kernel_rfl) (by kernel_rfl) (by kernel_rfl) (fun _ _ _ h => h) (by rfl) (fun w hSw => ?_) (by assumption) ?_
      rotate_left
      · (try dsimp only at hSw); go_simp; try with_reducible rfl
      try simp only [Act.put, List.setIfInBounds_toArray, List.set_cons_zero, List.set_cons_succ]
      refine heldE_take 3 (oi := _) (v := ?_) rfl (by kernel_rfl) (by kernel_rfl) (by kernel_rfl) (by kernel_rfl) (fun _ _ _ h => h) (by rfl) (fun w hSw => ?_) (by assumption) ?_
      rotate_left
      · (try dsimp only at hSw); go_simp; try with_reducible rfl
      try simp only [Act.put, List.setIfInBounds_toArray, List.set_cons_zero, List.set_cons_succ]
      refine heldE_take 4 (oi := _) (v := ?_) rfl (by kernel_rfl) (by kernel_rfl) (by kernel_rfl) (by kernel_rfl) (fun _ _ _ h => h) (by rfl) (fun w hSw => ?_) (by assumption) ?_
      rotate_left
      · (try dsimp only at hSw); go_simp; try with_reducible rfl
      try simp only [Act.put, List.setIfInBounds_toArray, List.set_cons_zero, List.set_cons_succ]
      refine heldE_take 5 (oi := _) (v := ?_) rfl (by kernel_rfl) (by kernel_rfl) (by kernel_rfl) (by kernel_rfl) (fun _ _ _ h => h) (by rfl) (fun w hSw => ?_) (by assumption) ?_
      rotate_left
      · (try dsimp only at hSw); go_simp; try with_reducible rfl
      try simp only [Act.put, List.setIfInBounds_toArray, List.set_cons_zero, List.set_cons_succ]
      refine heldE_take 6 (oi := _) (v := ?_) rfl (by kernel_rfl) (by kernel_rfl) (by kernel_rfl) (by kernel_rfl) (fun _ _ _ h => h) (by rfl) (fun w hSw => ?_) (by assumption) ?_
      rotate_left
      · (try dsimp only at hSw); go_simp; try with_reducible rfl
      try simp only [Act.put, List.setIfInBounds_toArray, List.set_cons_zero, List.set_cons_succ]
      refine heldE_take 7 (oi := _) (v := ?_) rfl (by kernel_rfl) (by kernel_rfl) (by kernel_rfl) (by kernel_rfl) (fun _ _ _ h => h) (by rfl) (fun w hSw => ?_) (by assumption) ?_
      rotate_left
      · (try dsimp only at hSw); go_simp; try with_reducible rfl
      try simp only [Act.put, List.setIfInBounds_toArray, List.set_cons_zero, List.set_cons_succ]
      refine heldE_take 9 (oi := _) (v := ?_) rfl (by kernel_rfl) (by kernel_rfl) (by kernel_rfl) (by kernel_rfl) (fun _ _ _ h => h) (by rfl) (fun w hSw => ?_) (by assumption) ?_
      rotate_left
      · (try dsimp only at hSw); go_simp; try with_reducible rfl
      try simp only [Act.put, List.setIfInBounds_toArray, List.set_cons_zero, List.set_cons_succ]
      refine heldE_take 12 (oi := _) (v := ?_) rfl (by kernel_rfl) (by kernel_rfl) (by kernel_rfl) (by kernel_rfl) (fun _ _ _ h => h) (by rfl) (fun w hSw => ?_) (by assumption) ?_
      rotate_left
      · (try dsimp only at hSw); go_simp; try with_reducible rfl
      try simp only [Act.put, List.setIfInBounds_toArray, List.set_cons_zero, List.set_cons_succ]
      refine heldE_take 13 (oi := _) (v := ?_) rfl (by kernel_rfl) (by kernel_rfl) (by kernel_rfl) (by kernel_rfl) (fun _ _ _ h => h) (by rfl) (fun w hSw => ?_) (by assumption) ?_
      rotate_left
      · (try dsimp only at hSw); go_simp; try with_reducible rfl
      try simp only [Act.put, List.setIfInBounds_toArray, List.set_cons_zero, List.set_cons_succ]
      refine heldE_take 14 (oi := _) (v := ?_) rfl (by kernel_rfl) (by kernel_rfl) (by kernel_rfl) (by kernel_rfl) (fun _ _ _ h => h) (by rfl) (fun w hSw => ?_) (by assumption) ?_
      rotate_left
      · (try dsimp only at hSw); go_simp; try with_reducible rfl
      try simp only [Act.put, List.setIfInBounds_toArray, List.set_cons_zero, List.set_cons_succ]
      refine heldE_take 15 (oi := _) (v := ?_) rfl (by kernel_rfl) (by kernel_rfl) (by kernel_rfl) (by kernel_rfl) (fun _ _ _ h => h) (by rfl) (fun w hSw => ?_) (by assumption) ?_
      rotate_left
      · (try dsimp only at hSw); go_simp; try with_reducible rfl
      try simp only [Act.put, List.setIfInBounds_toArray, List.set_cons_zero, List.set_cons_succ]
      refine heldE_take 16 (oi := _) (v := ?_) rfl (by kernel_rfl) (by kernel_rfl) (by kernel_rfl) (by kernel_rfl) (fun _ _ _ h => h) (by rfl) (fun w hSw => ?_) (by assumption) ?_
      rotate_left
      · (try dsimp only at hSw); go_simp; try with_reducible rfl
      try simp only [Act.put, List.setIfInBounds_toArray, List.set_cons_zero, List.set_cons_succ]
      refine heldE_take 17 (oi := _) (v := ?_) rfl (by kernel_rfl) (by kernel_rfl) (by kernel_rfl) (by kernel_rfl) (fun _ _ _ h => h) (by rfl) (fun w hSw => ?_) (by assumption) ?_
      rotate_left
      · (try dsimp only at hSw); go_simp; try with_reducible rfl
      try simp only [Act.put, List.setIfInBounds_toArray, List.set_cons_zero, List.set_cons_succ]
      refine wpAnyE_ready (rs := [1, 10]) (by kernel_rfl) (by simp) ?_
      refine heldE_cons 1 (o := _) rfl (fun KC hKC => ?_) (heldE_cons 10 (o := _) rfl (fun KC hKC => ?_) AllReadyE.nil)
      ·
        go_simp
        first | refine alloc_abs (K := KC _) ?_ | refine alloc_absD (K := KC _) ?_
        intro wE kE hE
        have TE := Lib.hid (show Kept (fun _ => False) w2 wE from by first | exact TY.out.trans kE (fun _ _ e => e) | exact kE)
        have FE := Lib.hid (by first | exact own_fresh (n := 0) (c := 0) TY.out.size | exact own_fresh (n := 0) (c := 0) (Nat.le_refl w2.heap.size))
        have KE := Lib.hid kE
        have HE := Lib.hid hE
        clear kE hE
        refine hKC.out _ _ ?_ (fun hHeld => ?_)
        · first | exact (CB.out _ T18.out).1 | exact (CB.out _ T11.out).1 | exact (CB.out _ TY.out).1 | exact (CB.out _ TE.out).1 | exact (CB.out _ T8.out).1
        clear hKC KC
        try simp only [Act.put, List.setIfInBounds_toArray, List.set_cons_zero, List.set_cons_succ]
        refine wpAnyE_ready (rs := [8, 10]) (by kernel_rfl) (by simp) ?_
        refine heldE_cons 8 (o := _) rfl (fun KC hKC => ?_) (heldE_cons 10 (o := _) rfl (fun KC hKC => ?_) AllReadyE.nil)
        ·
          refine step_append_mine rfl (.tmp 136) (.tmp 142) rentE rfl rfl (by first | exact own_empty_at HE.out | exact own_empty_at (kept_block KY.out HE.out)) _ i _ (ptrs A) rfl (by rw [ptrs_len, HI.out, Nat.mul_one]) (by first | exact (HH.out _ TE.out).1 | exact (HH.out _ TY.out).1) (ptrs_one A) (by unfold maxLen; omega) (by omega) ?_
          intro a1 c1 w8 o8 k8 b8
          rw [Nat.zero_add] at o8 b8
          simp only [List.nil_append] at o8
          have T8 := Lib.hid (show Kept (fun _ => False) w2 w8 from by first | exact kept_own TE.out FE.out k8 | exact kept_own TY.out FE.out k8)
          have F8 := Lib.hid (by first | exact own_or FE.out TE.out.size b8 | exact own_or FE.out TY.out.size b8)
          have K8 := Lib.hid k8
          have O8 := Lib.hid o8
          clear o8 k8 b8
          try simp only [Nat.zero_add]
          refine hKC.out _ _ ?_ (fun hHeld => ?_)
          · first | exact (CB.out _ T18.out).1 | exact (CB.out _ T11.out).1 | exact (CB.out _ TY.out).1 | exact (CB.out _ TE.out).1 | exact (CB.out _ T8.out).1
          clear hKC KC
          try simp only [Act.put, List.setIfInBounds_toArray, List.set_cons_zero, List.set_cons_succ]
          refine wpAnyE_ready (rs := [10]) (by kernel_rfl) (by simp) ?_
          refine heldE_cons 10 (o := _) rfl (fun KC hKC => ?_) AllReadyE.nil
          go_simp
          first | refine alloc_abs (K := KC _) ?_ | refine alloc_absD (K := KC _) ?_
          intro wY kY hY
          have TY := Lib.hid (show Kept (fun _ => False) w2 wY from by first | exact T8.out.trans kY (fun _ _ e => e) | exact TE.out.trans kY (fun _ _ e => e) | exact kY)
          have KY := Lib.hid kY
          have HY := Lib.hid hY
          clear kY hY
          refine hKC.out _ _ ?_ (fun hHeld => ?_)
          · first | exact (CB.out _ T18.out).1 | exact (CB.out _ T11.out).1 | exact (CB.out _ TY.out).1 | exact (CB.out _ TE.out).1 | exact (CB.out _ T8.out).1
          clear hKC KC
          try simp only [Act.put, List.setIfInBounds_toArray, List.set_cons_zero, List.set_cons_succ]
          refine wpAnyE_ready (rs := [11]) (by kernel_rfl) (by simp) ?_
          refine heldE_cons 11 (o := _) rfl (fun KC hKC => ?_) AllReadyE.nil
          refine step_append_mine rfl (.tmp 143) (.tmp 145) rentE rfl rfl (by first | exact ownsRow_kept O8.out KY.out (fun _ _ e => e) | exact O8.out) (some ⟨_, 0, none⟩) 1 1 [.pointer (some ⟨yb, 0, none⟩)] rfl rfl (by first | exact holds_block HY.out | exact hold_one (kept_block KY.out HE.out) HY.out K8.out | exact hold_one HE.out (kept_block KE.out HY.out) K8.out) (by simp [Value.oneCell']) (by unfold maxLen; omega) (by omega) ?_
          intro a3 c3 w11 o11 k11 b11
          have T11 := Lib.hid (show Kept (fun _ => False) w2 w11 from by first | exact kept_own T8.out F8.out k11 | exact kept_own TY.out F8.out k11)
          have F11 := Lib.hid (by first | exact own_or F8.out T8.out.size b11 | exact own_or F8.out TY.out.size b11)
          have O11 := Lib.hid o11
          clear o11 k11 b11
          refine hKC.out _ _ ?_ (fun hHeld => ?_)
          · first | exact (CB.out _ T18.out).1 | exact (CB.out _ T11.out).1 | exact (CB.out _ TY.out).1 | exact (CB.out _ TE.out).1 | exact (CB.out _ T8.out).1
          clear hKC KC
          try simp only [Act.put, List.setIfInBounds_toArray, List.set_cons_zero, List.set_cons_succ]
          refine wpAnyE_ready (rs := [18]) (by kernel_rfl) (by simp) ?_
          refine heldE_cons 18 (o := _) rfl (fun KC hKC => ?_) AllReadyE.nil
          refine step_append_mine rfl (.tmp 146) (.tmp 152) rentE rfl rfl O11.out _ 0 _ (ptrs B) rfl (by rw [ptrs_len, HNB.out]; omega) (by exact (HH.out _ T11.out).2) (ptrs_one B) (by unfold maxLen; omega) (by omega) ?_
          intro a5 c5 w18 o18 k18 b18
          have T18 := Lib.hid (kept_own T11.out F11.out k18)
          simp only [Nat.add_zero] at o18 b18
          have F18 := Lib.hid (own_or F11.out T11.out.size b18)
          have O18 := Lib.hid o18
          obtain ⟨hc18, hf18⟩ := CB.out _ T18.out
          clear o18 k18 b18
          refine hKC.out _ _ ?_ (fun hHeld => ?_)
          · first | exact (CB.out _ T18.out).1 | exact (CB.out _ T11.out).1 | exact (CB.out _ TY.out).1 | exact (CB.out _ TE.out).1 | exact (CB.out _ T8.out).1
          clear hKC KC
          try simp only [Act.put, List.setIfInBounds_toArray, List.set_cons_zero, List.set_cons_succ]
          refine wpAnyE_ready (rs := [19]) (by kernel_rfl) (by simp) ?_
          refine heldE_cons 19 (o := _) rfl (fun KC hKC => ?_) AllReadyE.nil
          go_simp
          refine hKC.out _ _ ?_ (fun hHeld => ?_)
          · first | exact (CB.out _ T18.out).1 | exact (CB.out _ T11.out).1 | exact (CB.out _ TY.out).1 | exact (CB.out _ TE.out).1 | exact (CB.out _ T8.out).1
          clear hKC KC
          try simp only [Act.put, List.setIfInBounds_toArray, List.set_cons_zero, List.set_cons_succ]
          refine heldE_take 20 (oi := _) (v := ?_) rfl (by kernel_rfl) (by kernel_rfl) (by kernel_rfl) (by kernel_rfl) (fun _ _ _ h => h) (by rfl) (fun w hSw => ?_) (by assumption) ?_
          rotate_left
          · (try dsimp only at hSw); go_simp; try with_reducible rfl
          try simp only [Act.put, List.setIfInBounds_toArray, List.set_cons_zero, List.set_cons_succ]
          refine wpAnyE_ready (rs := [21]) (by kernel_rfl) (by simp) ?_
          refine heldE_last (o := _) rfl (fun KC hKC => ?_) AllReadyE.nil
          go_simp
          refine hKC.out _ _ ?_
          clear hKC KC
          try simp only [Act.put, List.setIfInBounds_toArray, List.set_cons_zero, List.set_cons_succ]
          refine wpAnyE_done (by kernel_rfl) (NoPanic.normal ?_) _
          clear hc18 hf18
          generalize (if c = i then a else Option.map (fun x : Addr => x.add i) a) = xa
          have o18 := O18.out
          rw [show ptrs A ++ [.pointer (some ⟨yb, 0, none⟩)] ++ ptrs B = ptrs (A ++ (⟨yb, yd, cap, k, v⟩ : En) :: B) from by rw [ptrs_append, List.append_assoc]; rfl] at o18
          have hRaw2 := RT.raw T2.out.1 T18.out o18 F18.out
          obtain ⟨w3, hw3⟩ : ∃ w3, (World.setCell w18 ⟨bt, 5, none⟩ (Value.slice a5 (i + 1) c5)) = w3 := ⟨_, rfl⟩
          rw [hw3] at hRaw2 ⊢
          obtain ⟨M, hM⟩ : ∃ M, i + 1 = M := ⟨_, rfl⟩
          have hMN : M = (A ++ B).length + 1 := by rw [HN.out]; omega
          rw [hM] at hRaw2
          have f5 := hRaw2.c5
          have f4 := hRaw2.c4
          have RAW := Lib.hid hRaw2
          have HMN := Lib.hid hMN
          have hM9 : M ≤ 2000 := by omega
          clear hRaw2 hw3 e1 e5 o18 hM hMN hsub hjc
          have hsp : ((M : Int) ≤ m.mx) ∨ m.mx < (M : Int) := by omega
          rcases hsp with hle | hgt
          · have hdm : decide (m.mx < (M : Int)) = false := by simp; omega
            go_wp2_with fail
            go_quiet (fail)
            go_wp2_with fail
            go_ret
            have hI := rins_room T2.out.1 T2.out.2.1 T2.out.2.2.1 T2.out.2.2.2.1 T2.out.2.2.2.2.1 T2.out.2.2.2.2.2 rfl rfl H.out RAW.out HMN.out (by have := HMN.out; omega) HK.out HG.out.1 HG.out.2.1 HG.out.2.2.1 HG.out.2.2.2 H1.out
            exact ⟨rfl, hI.drewN _⟩
          · have hdm : decide (m.mx < (M : Int)) = true := by simp; omega
            go_wp2_with fail
            go_quiet (fail)
            obtain ⟨w4, hw4⟩ : ∃ w4, w3.drewN nq = w4 := ⟨_, rfl⟩
            have hR4 := RAW.out.keep (show Kept (fun _ => False) w3 w4 from by rw [← hw4]; exact (Kept.refl _ _).drewN _)
            try rw [hw4]
            obtain ⟨x0, tl, htl⟩ : ∃ x0 tl, A ++ (⟨yb, yd, cap, k, v⟩ : En) :: B = x0 :: tl := by cases A <;> exact ⟨_, _, rfl⟩
            have hlM : (x0 :: tl).length = M := by rw [← htl, HMN.out]; simp <;> omega
            rw [htl] at hR4
            have WO := Lib.hid (show Calls Tryz.prog 45 #[.pointer (some ⟨bt, 0, none⟩), .int .i64 0] w4 _ from rt_without_raw (l1 := []) (x := x0) (l2 := tl) hR4.c5 hR4.row (by show w4.ownsRow 0 _ 1 _ (x0 :: tl).length (ptrs (x0 :: tl)); rw [hlM]; exact hR4.own) hR4.ne (by show (x0 :: tl).length ≤ 2000; omega))
            have R4 := Lib.hid hR4
            have HTL := Lib.hid (And.intro htl hlM)
            clear hR4 hw4 htl hlM f4 f5
            go_wp2_with fail
            refine WO.out.mono ?_
            rintro e w5 ⟨r5, rfl, hr5, k5, fr5⟩
            have hR5 := R4.out.keep k5
            have g5 := hR5.c5
            have gf5 := hR5.row.frozen 5
            obtain ⟨a6, c6, rfl, -⟩ := own_form hr5
            obtain ⟨M6, hM6⟩ : ∃ M6, ([] ++ tl).length = M6 := ⟨_, rfl⟩
            rw [hM6] at hr5 fr5 ⊢
            have hR6 := hR5.store (L' := tl) hr5 (fun b e => Nat.le_trans (Nat.le_of_lt_succ (Nat.lt_succ_of_le R4.out.kept.size)) (fr5 b e))
            have R6 := Lib.hid hR6
            have HM6 := Lib.hid hM6
            clear hR5 hr5 k5 fr5 hR6 hM6
            go_wp2_with fail
            go_ret
            have hR7 := R6.out
            rw [show tl = (A ++ (⟨yb, yd, cap, k, v⟩ : En) :: B).tail from by rw [HTL.out.1]; rfl] at hR7
            refine ⟨rfl, rins_full T2.out.1 T2.out.2.1 T2.out.2.2.1 T2.out.2.2.2.1 T2.out.2.2.2.2.1 T2.out.2.2.2.2.2 rfl rfl H.out hR7 ?_ (by have := HMN.out; omega) HK.out HG.out.1 HG.out.2.1 HG.out.2.2.1 HG.out.2.2.2 H1.out⟩
            have h1 := HTL.out.2
            have h2 := HMN.out
            rw [← HM6.out]
            simp only [List.nil_append, List.length_cons] at h1 ⊢
            omega
        ·
          go_simp
          first | refine alloc_abs (K := KC _) ?_ | refine alloc_absD (K := KC _) ?_
          intro wY kY hY
          have TY := Lib.hid (show Kept (fun _ => False) w2 wY from by first | exact T8.out.trans kY (fun _ _ e => e) | exact TE.out.trans kY (fun _ _ e => e) | exact kY)
          have KY := Lib.hid kY
          have HY := Lib.hid hY
          clear kY hY
          refine hKC.out _ _ ?_ (fun hHeld => ?_)
          · first | exact (CB.out _ T18.out).1 | exact (CB.out _ T11.out).1 | exact (CB.out _ TY.out).1 | exact (CB.out _ TE.out).1 | exact (CB.out _ T8.out).1
          clear hKC KC
          try simp only [Act.put, List.setIfInBounds_toArray, List.set_cons_zero, List.set_cons_succ]
          refine wpAnyE_ready (rs := [8]) (by kernel_rfl) (by simp) ?_
          refine heldE_cons 8 (o := _) rfl (fun KC hKC => ?_) AllReadyE.nil
          refine step_append_mine rfl (.tmp 136) (.tmp 142) rentE rfl rfl (by first | exact own_empty_at HE.out | exact own_empty_at (kept_block KY.out HE.out)) _ i _ (ptrs A) rfl (by rw [ptrs_len, HI.out, Nat.mul_one]) (by first | exact (HH.out _ TE.out).1 | exact (HH.out _ TY.out).1) (ptrs_one A) (by unfold maxLen; omega) (by omega) ?_
          intro a1 c1 w8 o8 k8 b8
          rw [Nat.zero_add] at o8 b8
          simp only [List.nil_append] at o8
          have T8 := Lib.hid (show Kept (fun _ => False) w2 w8 from by first | exact kept_own TE.out FE.out k8 | exact kept_own TY.out FE.out k8)
          have F8 := Lib.hid (by first | exact own_or FE.out TE.out.size b8 | exact own_or FE.out TY.out.size b8)
          have K8 := Lib.hid k8
          have O8 := Lib.hid o8
          clear o8 k8 b8
          try simp only [Nat.zero_add]
          refine hKC.out _ _ ?_ (fun hHeld => ?_)
          · first | exact (CB.out _ T18.out).1 | exact (CB.out _ T11.out).1 | exact (CB.out _ TY.out).1 | exact (CB.out _ TE.out).1 | exact (CB.out _ T8.out).1
          clear hKC KC
          try simp only [Act.put, List.setIfInBounds_toArray, List.set_cons_zero, List.set_cons_succ]
          refine wpAnyE_ready (rs := [11]) (by kernel_rfl) (by simp) ?_
          refine heldE_cons 11 (o := _) rfl (fun KC hKC => ?_) AllReadyE.nil
          refine step_append_mine rfl (.tmp 143) (.tmp 145) rentE rfl rfl (by first | exact ownsRow_kept O8.out KY.out (fun _ _ e => e) | exact O8.out) (some ⟨_, 0, none⟩) 1 1 [.pointer (some ⟨yb, 0, none⟩)] rfl rfl (by first | exact holds_block HY.out | exact hold_one (kept_block KY.out HE.out) HY.out K8.out | exact hold_one HE.out (kept_block KE.out HY.out) K8.out) (by simp [Value.oneCell']) (by unfold maxLen; omega) (by omega) ?_
          intro a3 c3 w11 o11 k11 b11
          have T11 := Lib.hid (show Kept (fun _ => False) w2 w11 from by first | exact kept_own T8.out F8.out k11 | exact kept_own TY.out F8.out k11)
          have F11 := Lib.hid (by first | exact own_or F8.out T8.out.size b11 | exact own_or F8.out TY.out.size b11)
          have O11 := Lib.hid o11
          clear o11 k11 b11
          refine hKC.out _ _ ?_ (fun hHeld => ?_)
          · first | exact (CB.out _ T18.out).1 | exact (CB.out _ T11.out).1 | exact (CB.out _ TY.out).1 | exact (CB.out _ TE.out).1 | exact (CB.out _ T8.out).1
          clear hKC KC
          try simp only [Act.put, List.setIfInBounds_toArray, List.set_cons_zero, List.set_cons_succ]
          refine wpAnyE_ready (rs := [18]) (by kernel_rfl) (by simp) ?_
          refine heldE_cons 18 (o := _) rfl (fun KC hKC => ?_) AllReadyE.nil
          refine step_append_mine rfl (.tmp 146) (.tmp 152) rentE rfl rfl O11.out _ 0 _ (ptrs B) rfl (by rw [ptrs_len, HNB.out]; omega) (by exact (HH.out _ T11.out).2) (ptrs_one B) (by unfold maxLen; omega) (by omega) ?_
          intro a5 c5 w18 o18 k18 b18
          have T18 := Lib.hid (kept_own T11.out F11.out k18)
          simp only [Nat.add_zero] at o18 b18
          have F18 := Lib.hid (own_or F11.out T11.out.size b18)
          have O18 := Lib.hid o18
          obtain ⟨hc18, hf18⟩ := CB.out _ T18.out
          clear o18 k18 b18
          refine hKC.out _ _ ?_ (fun hHeld => ?_)
          · first | exact (CB.out _ T18.out).1 | exact (CB.out _ T11.out).1 | exact (CB.out _ TY.out).1 | exact (CB.out _ TE.out).1 | exact (CB.out _ T8.out).1
          clear hKC KC
          try simp only [Act.put, List.setIfInBounds_toArray, List.set_cons_zero, List.set_cons_succ]
          refine wpAnyE_ready (rs := [19]) (by kernel_rfl) (by simp) ?_
          refine heldE_cons 19 (o := _) rfl (fun KC hKC => ?_) AllReadyE.nil
          go_simp
          refine hKC.out _ _ ?_ (fun hHeld => ?_)
          · first | exact (CB.out _ T18.out).1 | exact (CB.out _ T11.out).1 | exact (CB.out _ TY.out).1 | exact (CB.out _ TE.out).1 | exact (CB.out _ T8.out).1
          clear hKC KC
          try simp only [Act.put, List.setIfInBounds_toArray, List.set_cons_zero, List.set_cons_succ]
          refine heldE_take 20 (oi := _) (v := ?_) rfl (by kernel_rfl) (by kernel_rfl) (by kernel_rfl) (by kernel_rfl) (fun _ _ _ h => h) (by rfl) (fun w hSw => ?_) (by assumption) ?_
          rotate_left
          · (try dsimp only at hSw); go_simp; try with_reducible rfl
          try simp only [Act.put, List.setIfInBounds_toArray, List.set_cons_zero, List.set_cons_succ]
          refine wpAnyE_ready (rs := [21]) (by kernel_rfl) (by simp) ?_
          refine heldE_last (o := _) rfl (fun KC hKC => ?_) AllReadyE.nil
          go_simp
          refine hKC.out _ _ ?_
          clear hKC KC
          try simp only [Act.put, List.setIfInBounds_toArray, List.set_cons_zero, List.set_cons_succ]
          refine wpAnyE_done (by kernel_rfl) (NoPanic.normal ?_) _
          clear hc18 hf18
          generalize (if c = i then a else Option.map (fun x : Addr => x.add i) a) = xa
          have o18 := O18.out
          rw [show ptrs A ++ [.pointer (some ⟨yb, 0, none⟩)] ++ ptrs B = ptrs (A ++ (⟨yb, yd, cap, k, v⟩ : En) :: B) from by rw [ptrs_append, List.append_assoc]; rfl] at o18
          have hRaw2 := RT.raw T2.out.1 T18.out o18 F18.out
          obtain ⟨w3, hw3⟩ : ∃ w3, (World.setCell w18 ⟨bt, 5, none⟩ (Value.slice a5 (i + 1) c5)) = w3 := ⟨_, rfl⟩
          rw [hw3] at hRaw2 ⊢
          obtain ⟨M, hM⟩ : ∃ M, i + 1 = M := ⟨_, rfl⟩
          have hMN : M = (A ++ B).length + 1 := by rw [HN.out]; omega
          rw [hM] at hRaw2
          have f5 := hRaw2.c5
          have f4 := hRaw2.c4
          have RAW := Lib.hid hRaw2
          have HMN := Lib.hid hMN
          have hM9 : M ≤ 2000 := by omega
          clear hRaw2 hw3 e1 e5 o18 hM hMN hsub hjc
          have hsp : ((M : Int) ≤ m.mx) ∨ m.mx < (M : Int) := by omega
          rcases hsp with hle | hgt
          · have hdm : decide (m.mx < (M : Int)) = false := by simp; omega
            go_wp2_with fail
            go_quiet (fail)
            go_wp2_with fail
            go_ret
            have hI := rins_room T2.out.1 T2.out.2.1 T2.out.2.2.1 T2.out.2.2.2.1 T2.out.2.2.2.2.1 T2.out.2.2.2.2.2 rfl rfl H.out RAW.out HMN.out (by have := HMN.out; omega) HK.out HG.out.1 HG.out.2.1 HG.out.2.2.1 HG.out.2.2.2 H1.out
            exact ⟨rfl, hI.drewN _⟩
          · have hdm : decide (m.mx < (M : Int)) = true := by simp; omega
            go_wp2_with fail
            go_quiet (fail)
            obtain ⟨w4, hw4⟩ : ∃ w4, w3.drewN nq = w4 := ⟨_, rfl⟩
            have hR4 := RAW.out.keep (show Kept (fun _ => False) w3 w4 from by rw [← hw4]; exact (Kept.refl _ _).drewN _)
            try rw [hw4]
            obtain ⟨x0, tl, htl⟩ : ∃ x0 tl, A ++ (⟨yb, yd, cap, k, v⟩ : En) :: B = x0 :: tl := by cases A <;> exact ⟨_, _, rfl⟩
            have hlM : (x0 :: tl).length = M := by rw [← htl, HMN.out]; simp <;> omega
            rw [htl] at hR4
            have WO := Lib.hid (show Calls Tryz.prog 45 #[.pointer (some ⟨bt, 0, none⟩), .int .i64 0] w4 _ from rt_without_raw (l1 := []) (x := x0) (l2 := tl) hR4.c5 hR4.row (by show w4.ownsRow 0 _ 1 _ (x0 :: tl).length (ptrs (x0 :: tl)); rw [hlM]; exact hR4.own) hR4.ne (by show (x0 :: tl).length ≤ 2000; omega))
            have R4 := Lib.hid hR4
            have HTL := Lib.hid (And.intro htl hlM)
            clear hR4 hw4 htl hlM f4 f5
            go_wp2_with fail
            refine WO.out.mono ?_
            rintro e w5 ⟨r5, rfl, hr5, k5, fr5⟩
            have hR5 := R4.out.keep k5
            have g5 := hR5.c5
            have gf5 := hR5.row.frozen 5
            obtain ⟨a6, c6, rfl, -⟩ := own_form hr5
            obtain ⟨M6, hM6⟩ : ∃ M6, ([] ++ tl).length = M6 := ⟨_, rfl⟩
            rw [hM6] at hr5 fr5 ⊢
            have hR6 := hR5.store (L' := tl) hr5 (fun b e => Nat.le_trans (Nat.le_of_lt_succ (Nat.lt_succ_of_le R4.out.kept.size)) (fr5 b e))
            have R6 := Lib.hid hR6
            have HM6 := Lib.hid hM6
            clear hR5 hr5 k5 fr5 hR6 hM6
            go_wp2_with fail
            go_ret
            have hR7 := R6.out
            rw [show tl = (A ++ (⟨yb, yd, cap, k, v⟩ : En) :: B).tail from by rw [HTL.out.1]; rfl] at hR7
            refine ⟨rfl, rins_full T2.out.1 T2.out.2.1 T2.out.2.2.1 T2.out.2.2.2.1 T2.out.2.2.2.2.1 T2.out.2.2.2.2.2 rfl rfl H.out hR7 ?_ (by have := HMN.out; omega) HK.out HG.out.1 HG.out.2.1 HG.out.2.2.1 HG.out.2.2.2 H1.out⟩
            have h1 := HTL.out.2
            have h2 := HMN.out
            rw [← HM6.out]
            simp only [List.nil_append, List.length_cons] at h1 ⊢
            omega
      ·
        go_simp
        first | refine alloc_abs (K := KC _) ?_ | refine alloc_absD (K := KC _) ?_
        intro wY kY hY
        have TY := Lib.hid (show Kept (fun _ => False) w2 wY from by first | exact T8.out.trans kY (fun _ _ e => e) | exact TE.out.trans kY (fun _ _ e => e) | exact kY)
        have KY := Lib.hid kY
        have HY := Lib.hid hY
        clear kY hY
        refine hKC.out _ _ ?_ (fun hHeld => ?_)
        · first | exact (CB.out _ T18.out).1 | exact (CB.out _ T11.out).1 | exact (CB.out _ TY.out).1 | exact (CB.out _ TE.out).1 | exact (CB.out _ T8.out).1
        clear hKC KC
        try simp only [Act.put, List.setIfInBounds_toArray, List.set_cons_zero, List.set_cons_succ]
        refine wpAnyE_ready (rs := [1]) (by kernel_rfl) (by simp) ?_
        refine heldE_cons 1 (o := _) rfl (fun KC hKC => ?_) AllReadyE.nil
        go_simp
        first | refine alloc_abs (K := KC _) ?_ | refine alloc_absD (K := KC _) ?_
        intro wE kE hE
        have TE := Lib.hid (show Kept (fun _ => False) w2 wE from by first | exact TY.out.trans kE (fun _ _ e => e) | exact kE)
        have FE := Lib.hid (by first | exact own_fresh (n := 0) (c := 0) TY.out.size | exact own_fresh (n := 0) (c := 0) (Nat.le_refl w2.heap.size))
        have KE := Lib.hid kE
        have HE := Lib.hid hE
        clear kE hE
        refine hKC.out _ _ ?_ (fun hHeld => ?_)
        · first | exact (CB.out _ T18.out).1 | exact (CB.out _ T11.out).1 | exact (CB.out _ TY.out).1 | exact (CB.out _ TE.out).1 | exact (CB.out _ T8.out).1
        clear hKC KC
        try simp only [Act.put, List.setIfInBounds_toArray, List.set_cons_zero, List.set_cons_succ]
        refine wpAnyE_ready (rs := [8]) (by kernel_rfl) (by simp) ?_
        refine heldE_cons 8 (o := _) rfl (fun KC hKC => ?_) AllReadyE.nil
        refine step_append_mine rfl (.tmp 136) (.tmp 142) rentE rfl rfl (by first | exact own_empty_at HE.out | exact own_empty_at (kept_block KY.out HE.out)) _ i _ (ptrs A) rfl (by rw [ptrs_len, HI.out, Nat.mul_one]) (by first | exact (HH.out _ TE.out).1 | exact (HH.out _ TY.out).1) (ptrs_one A) (by unfold maxLen; omega) (by omega) ?_
        intro a1 c1 w8 o8 k8 b8
        rw [Nat.zero_add] at o8 b8
        simp only [List.nil_append] at o8
        have T8 := Lib.hid (show Kept (fun _ => False) w2 w8 from by first | exact kept_own TE.out FE.out k8 | exact kept_own TY.out FE.out k8)
        have F8 := Lib.hid (by first | exact own_or FE.out TE.out.size b8 | exact own_or FE.out TY.out.size b8)
        have K8 := Lib.hid k8
        have O8 := Lib.hid o8
        clear o8 k8 b8
        try simp only [Nat.zero_add]
        refine hKC.out _ _ ?_ (fun hHeld => ?_)
        · first | exact (CB.out _ T18.out).1 | exact (CB.out _ T11.out).1 | exact (CB.out _ TY.out).1 | exact (CB.out _ TE.out).1 | exact (CB.out _ T8.out).1
        clear hKC KC
        try simp only [Act.put, List.setIfInBounds_toArray, List.set_cons_zero, List.set_cons_succ]
        refine wpAnyE_ready (rs := [11]) (by kernel_rfl) (by simp) ?_
        refine heldE_cons 11 (o := _) rfl (fun KC hKC => ?_) AllReadyE.nil
        refine step_append_mine rfl (.tmp 143) (.tmp 145) rentE rfl rfl (by first | exact ownsRow_kept O8.out KY.out (fun _ _ e => e) | exact O8.out) (some ⟨_, 0, none⟩) 1 1 [.pointer (some ⟨yb, 0, none⟩)] rfl rfl (by first | exact holds_block HY.out | exact hold_one (kept_block KY.out HE.out) HY.out K8.out | exact hold_one HE.out (kept_block KE.out HY.out) K8.out) (by simp [Value.oneCell']) (by unfold maxLen; omega) (by omega) ?_
        intro a3 c3 w11 o11 k11 b11
        have T11 := Lib.hid (show Kept (fun _ => False) w2 w11 from by first | exact kept_own T8.out F8.out k11 | exact kept_own TY.out F8.out k11)
        have F11 := Lib.hid (by first | exact own_or F8.out T8.out.size b11 | exact own_or F8.out TY.out.size b11)
        have O11 := Lib.hid o11
        clear o11 k11 b11
        refine hKC.out _ _ ?_ (fun hHeld => ?_)
        · first | exact (CB.out _ T18.out).1 | exact (CB.out _ T11.out).1 | exact (CB.out _ TY.out).1 | exact (CB.out _ TE.out).1 | exact (CB.out _ T8.out).1
        clear hKC KC
        try simp only [Act.put, List.setIfInBounds_toArray, List.set_cons_zero, List.set_cons_succ]
        refine wpAnyE_ready (rs := [18]) (by kernel_rfl) (by simp) ?_
        refine heldE_cons 18 (o := _) rfl (fun KC hKC => ?_) AllReadyE.nil
        refine step_append_mine rfl (.tmp 146) (.tmp 152) rentE rfl rfl O11.out _ 0 _ (ptrs B) rfl (by rw [ptrs_len, HNB.out]; omega) (by exact (HH.out _ T11.out).2) (ptrs_one B) (by unfold maxLen; omega) (by omega) ?_
        intro a5 c5 w18 o18 k18 b18
        have T18 := Lib.hid (kept_own T11.out F11.out k18)
        simp only [Nat.add_zero] at o18 b18
        have F18 := Lib.hid (own_or F11.out T11.out.size b18)
        have O18 := Lib.hid o18
        obtain ⟨hc18, hf18⟩ := CB.out _ T18.out
        clear o18 k18 b18
        refine hKC.out _ _ ?_ (fun hHeld => ?_)
        · first | exact (CB.out _ T18.out).1 | exact (CB.out _ T11.out).1 | exact (CB.out _ TY.out).1 | exact (CB.out _ TE.out).1 | exact (CB.out _ T8.out).1
        clear hKC KC
        try simp only [Act.put, List.setIfInBounds_toArray, List.set_cons_zero, List.set_cons_succ]
        refine wpAnyE_ready (rs := [19]) (by kernel_rfl) (by simp) ?_
        refine heldE_cons 19 (o := _) rfl (fun KC hKC => ?_) AllReadyE.nil
        go_simp
        refine hKC.out _ _ ?_ (fun hHeld => ?_)
        · first | exact (CB.out _ T18.out).1 | exact (CB.out _ T11.out).1 | exact (CB.out _ TY.out).1 | exact (CB.out _ TE.out).1 | exact (CB.out _ T8.out).1
        clear hKC KC
        try simp only [Act.put, List.setIfInBounds_toArray, List.set_cons_zero, List.set_cons_succ]
        refine heldE_take 20 (oi := _) (v := ?_) rfl (by kernel_rfl) (by kernel_rfl) (by kernel_rfl) (by kernel_rfl) (fun _ _ _ h => h) (by rfl) (fun w hSw => ?_) (by assumption) ?_
        rotate_left
        · (try dsimp only at hSw); go_simp; try with_reducible rfl
        try simp only [Act.put, List.setIfInBounds_toArray, List.set_cons_zero, List.set_cons_succ]
        refine wpAnyE_ready (rs := [21]) (by kernel_rfl) (by simp) ?_
        refine heldE_last (o := _) rfl (fun KC hKC => ?_) AllReadyE.nil
        go_simp
        refine hKC.out _ _ ?_
        clear hKC KC
        try simp only [Act.put, List.setIfInBounds_toArray, List.set_cons_zero, List.set_cons_succ]
        refine wpAnyE_done (by kernel_rfl) (NoPanic.normal ?_) _
        clear hc18 hf18
        generalize (if c = i then a else Option.map (fun x : Addr => x.add i) a) = xa
        have o18 := O18.out
        rw [show ptrs A ++ [.pointer (some ⟨yb, 0, none⟩)] ++ ptrs B = ptrs (A ++ (⟨yb, yd, cap, k, v⟩ : En) :: B) from by rw [ptrs_append, List.append_assoc]; rfl] at o18
        have hRaw2 := RT.raw T2.out.1 T18.out o18 F18.out
        obtain ⟨w3, hw3⟩ : ∃ w3, (World.setCell w18 ⟨bt, 5, none⟩ (Value.slice a5 (i + 1) c5)) = w3 := ⟨_, rfl⟩
        rw [hw3] at hRaw2 ⊢
        obtain ⟨M, hM⟩ : ∃ M, i + 1 = M := ⟨_, rfl⟩
        have hMN : M = (A ++ B).length + 1 := by rw [HN.out]; omega
        rw [hM] at hRaw2
        have f5 := hRaw2.c5
        have f4 := hRaw2.c4
        have RAW := Lib.hid hRaw2
        have HMN := Lib.hid hMN
        have hM9 : M ≤ 2000 := by omega
        clear hRaw2 hw3 e1 e5 o18 hM hMN hsub hjc
        have hsp : ((M : Int) ≤ m.mx) ∨ m.mx < (M : Int) := by omega
        rcases hsp with hle | hgt
        · have hdm : decide (m.mx < (M : Int)) = false := by simp; omega
          go_wp2_with fail
          go_quiet (fail)
          go_wp2_with fail
          go_ret
          have hI := rins_room T2.out.1 T2.out.2.1 T2.out.2.2.1 T2.out.2.2.2.1 T2.out.2.2.2.2.1 T2.out.2.2.2.2.2 rfl rfl H.out RAW.out HMN.out (by have := HMN.out; omega) HK.out HG.out.1 HG.out.2.1 HG.out.2.2.1 HG.out.2.2.2 H1.out
          exact ⟨rfl, hI.drewN _⟩
        · have hdm : decide (m.mx < (M : Int)) = true := by simp; omega
          go_wp2_with fail
          go_quiet (fail)
          obtain ⟨w4, hw4⟩ : ∃ w4, w3.drewN nq = w4 := ⟨_, rfl⟩
          have hR4 := RAW.out.keep (show Kept (fun _ => False) w3 w4 from by rw [← hw4]; exact (Kept.refl _ _).drewN _)
          try rw [hw4]
          obtain ⟨x0, tl, htl⟩ : ∃ x0 tl, A ++ (⟨yb, yd, cap, k, v⟩ : En) :: B = x0 :: tl := by cases A <;> exact ⟨_, _, rfl⟩
          have hlM : (x0 :: tl).length = M := by rw [← htl, HMN.out]; simp <;> omega
          rw [htl] at hR4
          have WO := Lib.hid (show Calls Tryz.prog 45 #[.pointer (some ⟨bt, 0, none⟩), .int .i64 0] w4 _ from rt_without_raw (l1 := []) (x := x0) (l2 := tl) hR4.c5 hR4.row (by show w4.ownsRow 0 _ 1 _ (x0 :: tl).length (ptrs (x0 :: tl)); rw [hlM]; exact hR4.own) hR4.ne (by show (x0 :: tl).length ≤ 2000; omega))
          have R4 := Lib.hid hR4
          have HTL := Lib.hid (And.intro htl hlM)
          clear hR4 hw4 htl hlM f4 f5
          go_wp2_with fail
          refine WO.out.mono ?_
          rintro e w5 ⟨r5, rfl, hr5, k5, fr5⟩
          have hR5 := R4.out.keep k5
          have g5 := hR5.c5
          have gf5 := hR5.row.frozen 5
          obtain ⟨a6, c6, rfl, -⟩ := own_form hr5
          obtain ⟨M6, hM6⟩ : ∃ M6, ([] ++ tl).length = M6 := ⟨_, rfl⟩
          rw [hM6] at hr5 fr5 ⊢
          have hR6 := hR5.store (L' := tl) hr5 (fun b e => Nat.le_trans (Nat.le_of_lt_succ (Nat.lt_succ_of_le R4.out.kept.size)) (fr5 b e))
          have R6 := Lib.hid hR6
          have HM6 := Lib.hid hM6
          clear hR5 hr5 k5 fr5 hR6 hM6
          go_wp2_with fail
          go_ret
          have hR7 := R6.out
          rw [show tl = (A ++ (⟨yb, yd, cap, k, v⟩ : En) :: B).tail from by rw [HTL.out.1]; rfl] at hR7
          refine ⟨rfl, rins_full T2.out.1 T2.out.2.1 T2.out.2.2.1 T2.out.2.2.2.1 T2.out.2.2.2.2.1 T2.out.2.2.2.2.2 rfl rfl H.out hR7 ?_ (by have := HMN.out; omega) HK.out HG.out.1 HG.out.2.1 HG.out.2.2.1 HG.out.2.2.2 H1.out⟩
          have h1 := HTL.out.2
          have h2 := HMN.out
          rw [← HM6.out]
          simp only [List.nil_append, List.length_cons] at h1 ⊢
          omega
end
end Go.Proofs.YtjkgimloafpipaaGreat
