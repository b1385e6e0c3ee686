/- The document's table: another row is put in, raw. -/
import Derived.Test.YtalahbmahpgkeaaRefUpd
import Derived.Test.YtalahbmahpgkeaaRefNew
import Derived.Test.YtalahbmahpgkeaaWorlds
namespace Go.Proofs.Ytalahbmahpgkeaa
set_option linter.unusedVariables false
set_option linter.unusedSimpArgs false
open Go.RowKit Go.MapKept

/-- The table's block with the row r in it, whose entries are L. -/
structure Raw (w2 w3 : World) (bt : Nat) (m : TM) (r : Value) (M : Nat) (L : List En) : Prop where
  row : RowAt w3 bt 6
  c0 : w3.cell? ⟨bt, 0, none⟩ = some (.string m.nm)
  c1 : w3.cell? ⟨bt, 1, none⟩ = some (.int .i64 m.kd)
  c2 : w3.cell? ⟨bt, 2, none⟩ = some (.int .i64 m.ks)
  c3 : w3.cell? ⟨bt, 3, none⟩ = some (.int .i64 m.vs)
  c4 : w3.cell? ⟨bt, 4, none⟩ = some (.int .i64 m.mx)
  c5 : w3.cell? ⟨bt, 5, none⟩ = some r
  own : w3.ownsRow 0 59 1 r M (ptrs L)
  kept : Kept (fun b => b = bt) w2 w3
  fresh : ∀ b, r.ownBlock = some b → w2.heap.size ≤ b
  lt : bt < w2.heap.size
section
variable {w w2 w3 w4 : World} {bt : Nat} {m : TM} {lv r r' : Value} {E L L' : List En} {M M' : Nat}
theorem Raw.ne (h : Raw w2 w3 bt m r M L) : r.ownBlock ≠ some bt := fun e => by have := h.fresh bt e; have := h.lt; omega
theorem Raw.keep (h : Raw w2 w3 bt m r M L) (q : Kept (fun _ => False) w3 w4) : Raw w2 w4 bt m r M L := by
  have hl := h.row.lt
  exact ⟨h.row.kept q (fun e => e), (q.cell (p := ⟨bt, 0, none⟩) hl (fun e => e)).trans h.c0, (q.cell (p := ⟨bt, 1, none⟩) hl (fun e => e)).trans h.c1, (q.cell (p := ⟨bt, 2, none⟩) hl (fun e => e)).trans h.c2, (q.cell (p := ⟨bt, 3, none⟩) hl (fun e => e)).trans h.c3,
    (q.cell (p := ⟨bt, 4, none⟩) hl (fun e => e)).trans h.c4, (q.cell (p := ⟨bt, 5, none⟩) hl (fun e => e)).trans h.c5, ownsRow_kept h.own q (fun _ _ e => e), h.kept.trans q (fun _ _ e => e.elim), h.fresh, h.lt⟩
theorem Raw.store (h : Raw w2 w3 bt m r M L) (hr : w3.ownsRow 0 59 1 r' M' (ptrs L')) (hf : ∀ b, r'.ownBlock = some b → w2.heap.size ≤ b) : Raw w2 (w3.setCell ⟨bt, 5, none⟩ r') bt m r' M' L' := by
  have ks := Kept.one_set w3 ⟨bt, 5, none⟩ r'
  have hl := h.lt
  exact ⟨h.row.setCell _ _, (cell_set_other _ (by omega)).trans h.c0, (cell_set_other _ (by omega)).trans h.c1, (cell_set_other _ (by omega)).trans h.c2, (cell_set_other _ (by omega)).trans h.c3, (cell_set_other _ (by omega)).trans h.c4,
    cell_set_same h.row (by omega) _, ownsRow_kept hr ks (fun b e e2 => by have e2 : b = bt := e2; have := hf b e; omega), h.kept.trans ks (fun _ _ e => e), hf, hl⟩
theorem RT.raw (h : RT w2 bt m lv E) (q : Kept (fun _ => False) w2 w3) (hr : w3.ownsRow 0 59 1 r M (ptrs L)) (hf : ∀ b, r.ownBlock = some b → w2.heap.size ≤ b) : Raw w2 (w3.setCell ⟨bt, 5, none⟩ r) bt m r M L := by
  have h1 := h.keep q
  have ks := Kept.one_set w3 ⟨bt, 5, none⟩ r
  have hl := h.row.lt
  exact ⟨h1.row.setCell _ _, (cell_set_other _ (by omega)).trans h1.c0, (cell_set_other _ (by omega)).trans h1.c1, (cell_set_other _ (by omega)).trans h1.c2, (cell_set_other _ (by omega)).trans h1.c3, (cell_set_other _ (by omega)).trans h1.c4,
    cell_set_same h1.row (by omega) _, ownsRow_kept hr ks (fun b e e2 => by have e2 : b = bt := e2; have := hf b e; omega), (kF q).trans ks (fun _ _ e => e), hf, hl⟩
/-- Entries that were there, or are new. -/
theorem Raw.rt (h : RT w2 bt m lv E) (hR : Raw w2 w3 bt m r L.length L) (hmem : ∀ x ∈ L, (x ∈ E ∨ (EnAt w2 x ∧ (x.key.size : Int) = m.ks ∧ (x.data.size : Int) = m.vs ∧ x.b ≠ bt ∧ x.d ≠ bt)))
    (hkeys : (L.map (·.key)).Nodup) (hblocks : (L.flatMap fun x => [x.b, x.d]).Nodup) (hlen : (L.length : Int) ≤ m.mx) (harr : m.kd = 1 → L.map (·.key) = (List.range m.mx.toNat).map numK) (hrise : m.kd = 2 → Rises (fun x : En => x.key) L) : RT w3 bt m r L := by
  have he : ∀ x ∈ L, EnAt w2 x ∧ (x.key.size : Int) = m.ks ∧ (x.data.size : Int) = m.vs ∧ x.b ≠ bt ∧ x.d ≠ bt := fun x hx => by
    rcases hmem x hx with h1 | h1
    · exact ⟨h.en x h1, (h.size x h1).1, (h.size x h1).2, (h.ownb x h1).1, (h.ownb x h1).2⟩
    · exact h1
  refine ⟨h.right, hR.row, hR.c0, hR.c1, hR.c2, hR.c3, hR.c4, hR.c5, hR.own, hR.ne, fun x hx => (he x hx).1.kept hR.kept (he x hx).2.2.2.1 (he x hx).2.2.2.2, fun x hx => ⟨(he x hx).2.1, (he x hx).2.2.1⟩, hkeys, hblocks, fun b hb x hx => ?_, fun x hx => (he x hx).2.2.2, hlen, harr, hrise⟩
  have := hR.fresh b hb
  have := (he x hx).1.row.lt
  have := (he x hx).1.drow.lt
  omega
/-- A new entry among those that were there. -/
theorem new_list {A B : List En} {y : En} {k : ByteArray} (h : RT w bt m lv (A ++ B)) (hk : ∀ p ∈ A ++ B, p.key ≠ k) (hyk : y.key = k) (hyb : w.heap.size ≤ y.b) (hyd : w.heap.size ≤ y.d) (hne : y.d ≠ y.b) (hA : m.kd = 2 → ∀ x ∈ A, keyLt x.key k = true) (hB : m.kd = 2 → ∀ x ∈ B, keyLt k x.key = true) :
    ((A ++ y :: B).map (·.key)).Nodup ∧ ((A ++ y :: B).flatMap fun x => [x.b, x.d]).Nodup ∧ (m.kd = 2 → Rises (fun x : En => x.key) (A ++ y :: B)) := by
  have hp : (A ++ y :: B).Perm (y :: (A ++ B)) := List.perm_middle
  refine ⟨((hp.map _).nodup_iff).2 ?_, ((flat_perm hp).nodup_iff).2 ?_, fun h2 => ?_⟩
  · rw [List.map_cons, List.nodup_cons]
    refine ⟨fun hm => ?_, h.keys⟩
    obtain ⟨x, hx, e⟩ := List.mem_map.1 hm
    exact hk x hx (e.trans hyk)
  · rw [List.flatMap_cons, List.nodup_append]
    refine ⟨by simpa using fun e => hne e.symm, h.blocks, ?_⟩
    intro a ha b hb e
    obtain ⟨x, hx, hb⟩ := List.mem_flatMap.1 hb
    have l1 := (h.en x hx).row.lt
    have l2 := (h.en x hx).drow.lt
    simp only [List.mem_cons, List.not_mem_nil, or_false] at ha hb
    omega
  · have hr := h.rise h2
    have hr2 := List.pairwise_append.1 hr
    refine List.pairwise_append.2 ⟨hr2.1, List.pairwise_cons.2 ⟨fun b hb => by dsimp only; rw [hyk]; exact hB h2 b hb, hr2.2.1⟩, fun a ha b hb => ?_⟩
    rcases List.mem_cons.1 hb with rfl | hb
    · dsimp only
      rw [hyk]
      exact hA h2 a ha
    · exact hr2.2.2 a ha b hb
/-- What a new key makes. -/
def InsP (w : World) (bt : Nat) (m : TM) (k v : ByteArray) (A B : List En) (w' : World) : Prop :=
  ∃ lv' y, w.heap.size ≤ y.b ∧ w.heap.size ≤ y.d ∧ y.key = k ∧ y.data = v ∧ RT w' bt m lv' (if ((A ++ B).length : Int) + 1 ≤ m.mx then A ++ y :: B else (A ++ y :: B).tail) ∧ Kept (fun b => b = bt) w w' ∧ (∀ b, lv'.ownBlock = some b → w.heap.size ≤ b)
theorem InsP.drewN {A B : List En} {k v : ByteArray} (h : InsP w bt m k v A B w3) (n : Nat) : InsP w bt m k v A B (w3.drewN n) := by
  obtain ⟨lv', y, h1, h2, h3, h4, h5, h6, h7⟩ := h
  exact ⟨lv', y, h1, h2, h3, h4, h5.keep ((Kept.refl _ _).drewN n), h6.drewN n, h7⟩
theorem rins_room {lv0 : Value} {A B : List En} {y : En} {k v : ByteArray} (h2 : RT w2 bt m lv (A ++ B)) (hw : Kept (fun _ => False) w w2) (hy : EnAt w2 y) (hyb : w.heap.size ≤ y.b) (hyd : w.heap.size ≤ y.d) (hne : y.d ≠ y.b) (hyk : y.key = k) (hyv : y.data = v) (h : RT w bt m lv0 (A ++ B)) (hR : Raw w2 w3 bt m r M (A ++ y :: B)) (hM : M = (A ++ B).length + 1)
    (hle : ((A ++ B).length : Int) + 1 ≤ m.mx) (hk : ∀ p ∈ A ++ B, p.key ≠ k) (hA : m.kd = 2 → ∀ x ∈ A, keyLt x.key k = true) (hB : m.kd = 2 → ∀ x ∈ B, keyLt k x.key = true) (hks : (k.size : Int) = m.ks) (hvs : (v.size : Int) = m.vs) (h1 : m.kd ≠ 1) : InsP w bt m k v A B w3 := by
  obtain ⟨n1, n2, n3⟩ := new_list h hk hyk hyb hyd hne hA hB
  have hbt := h.row.lt
  have hL : M = (A ++ y :: B).length := by rw [hM]; simp <;> omega
  rw [hL] at hR
  refine ⟨r, y, hyb, hyd, hyk, hyv, ?_, hw.mono (fun _ _ e => e.elim) |>.trans hR.kept (fun b hb e => e), fun b hb => Nat.le_trans hw.size (hR.fresh b hb)⟩
  rw [if_pos hle]
  refine Raw.rt h2 hR (fun x hx => ?_) n1 n2 (by rw [← hL, hM]; omega) (fun e => absurd e h1) n3
  rcases List.mem_append.1 hx with hx | hx
  · exact .inl (List.mem_append_left _ hx)
  · rcases List.mem_cons.1 hx with rfl | hx
    · exact .inr ⟨hy, by rw [hyk]; exact hks, by rw [hyv]; exact hvs, by omega, by omega⟩
    · exact .inl (List.mem_append_right _ hx)
theorem rins_full {lv0 : Value} {A B : List En} {y : En} {k v : ByteArray} (h2 : RT w2 bt m lv (A ++ B)) (hw : Kept (fun _ => False) w w2) (hy : EnAt w2 y) (hyb : w.heap.size ≤ y.b) (hyd : w.heap.size ≤ y.d) (hne : y.d ≠ y.b) (hyk : y.key = k) (hyv : y.data = v) (h : RT w bt m lv0 (A ++ B)) (hR : Raw w2 w3 bt m r M (A ++ y :: B).tail) (hM : M = (A ++ B).length)
    (hle : m.mx < ((A ++ B).length : Int) + 1) (hk : ∀ p ∈ A ++ B, p.key ≠ k) (hA : m.kd = 2 → ∀ x ∈ A, keyLt x.key k = true) (hB : m.kd = 2 → ∀ x ∈ B, keyLt k x.key = true) (hks : (k.size : Int) = m.ks) (hvs : (v.size : Int) = m.vs) (h1 : m.kd ≠ 1) : InsP w bt m k v A B w3 := by
  obtain ⟨n1, n2, n3⟩ := new_list h hk hyk hyb hyd hne hA hB
  have hbt := h.row.lt
  have hlen := h.len
  have hs : (A ++ y :: B).tail.Sublist (A ++ y :: B) := List.tail_sublist _
  have hL : M = (A ++ y :: B).tail.length := by rw [hM]; simp <;> omega
  rw [hL] at hR
  refine ⟨r, y, hyb, hyd, hyk, hyv, ?_, hw.mono (fun _ _ e => e.elim) |>.trans hR.kept (fun b hb e => e), fun b hb => Nat.le_trans hw.size (hR.fresh b hb)⟩
  rw [if_neg (by omega)]
  refine Raw.rt h2 hR (fun x hx => ?_) (n1.sublist (hs.map _)) (n2.sublist (flat_sub hs)) (by rw [← hL, hM]; exact hlen) (fun e => absurd e h1) (fun e => (n3 e).sublist hs)
  rcases List.mem_append.1 (hs.subset hx) with hx | hx
  · exact .inl (List.mem_append_left _ hx)
  · rcases List.mem_cons.1 hx with rfl | hx
    · exact .inr ⟨hy, by rw [hyk]; exact hks, by rw [hyv]; exact hvs, by omega, by omega⟩
    · exact .inl (List.mem_append_right _ hx)
theorem ins_holds {a : Option Addr} {M c i : Nat} {A B : List En} (h : RT w2 bt m (.slice a M c) (A ++ B)) (hi : A.length = i) : ∀ w', Kept (fun _ => False) w2 w' → Holds9 w' a (ptrs A) ∧ Holds9 w' (if c = i then a else Option.map (fun x => x.add i) a) (ptrs B) := by
  intro w' q
  have ho := (h.keep q).own
  obtain ⟨a', c', e, hg, -, hle⟩ := own_form ho
  cases e
  have hl : (A ++ B).length = i + B.length := by rw [List.length_append, hi]
  refine ⟨?_, ?_⟩
  · by_cases hA : A.length = 0
    · exact rholds_nil (by rw [ptrs_len]; exact hA)
    · obtain ⟨g, rfl⟩ := hg (by simp <;> omega)
      refine rholds_part ho 0 _ fun j u hj => ?_
      rw [ptrs_append, Nat.zero_add, List.getElem?_append_left (List.getElem?_eq_some_iff.1 hj).1]
      exact hj
  · by_cases hB : B.length = 0
    · exact rholds_nil (by rw [ptrs_len]; exact hB)
    · obtain ⟨g, rfl⟩ := hg (by omega)
      rw [if_neg (by omega)]
      show Holds9 w' (some ((⟨g, 0, none⟩ : Addr).add i)) (ptrs B)
      rw [add_zero_off]
      refine rholds_part ho i _ fun j u hj => ?_
      rw [ptrs_append, List.getElem?_append_right (by rw [ptrs_len]; omega), ptrs_len, show i + j - A.length = j by omega]
      exact hj
end
end Go.Proofs.Ytalahbmahpgkeaa
