/- slices.Values of a row of entries, ranged over: each of them, in order. -/
import Derived.Test.YtdkcnigghcbnpaaGreatTblB
import Derived.Test.YtdkcnigghcbnpaaGreatGenD
import Derived.Test.YtdkcnigghcbnpaaGreatGenA
namespace Go.Proofs.YtdkcnigghcbnpaaGreat
set_option linter.unusedVariables false
set_option linter.unusedSimpArgs false
open Go.RowKit Go.MapKept

/-- What an iterator over a row reads: its box, and the row. -/
def RowRd (bx : Nat) (sv : Value) (bs : List Nat) (W : World) : Prop := W.cell? ⟨bx, 0, none⟩ = some sv ∧ bx < W.heap.size ∧ W.ownsRow 0 41 1 sv bs.length (bs.map pV)
theorem RowRd.kept {bx : Nat} {sv : Value} {bs : List Nat} {S : Nat → Prop} {W W' : World} (h : RowRd bx sv bs W) (k : Kept S W W') (h1 : ¬ S bx) (h2 : ∀ b, sv.ownBlock = some b → ¬ S b) : RowRd bx sv bs W' :=
  ⟨(k.cell h.2.1 h1).trans h.1, Nat.lt_of_lt_of_le h.2.1 k.size, ownsRow_kept h.2.2 k h2⟩

set_option maxRecDepth 100000 in
set_option maxHeartbeats 1000000 in
theorem VE.values1 (bx : Nat) (sv : Value) (bs : List Nat) (hbs : bs.length ≤ 1000000) :
    IterG Tryz.prog 163 #[.pointer (some ⟨bx, 0, none⟩)] (fun b : Nat => #[.pointer (some ⟨b, 0, none⟩)]) (fun l => l = bs) (fun b => b = bx ∨ sv.ownBlock = some b) (RowRd bx sv bs) := by
  intro l J Jx U W hJ hJx hY h0 hD hlt hR
  obtain ⟨a, c, rfl, hg, -, hnc⟩ := own_form hR.2.2
  have hbx := hR.1
  obtain ⟨N, hN⟩ : ∃ N, bs.length = N := ⟨_, rfl⟩
  rw [hN] at hbx hbs hnc
  have HN := Lib.hid hN
  refine callsIn_of_wp Tryz.func163 rfl trivial ?_ rfl
  simp only [Tryz.ntmps163, List.size_toArray, List.length_cons, List.length_nil, Nat.reduceAdd, Nat.reduceSub, Array.replicate_succ, Array.replicate_zero, List.push_toArray, List.append_toArray, List.nil_append, List.cons_append]
  rw [hN] at hR hD hY
  have HG := Lib.hid hg
  have HJ := Lib.hid hJ
  clear hN hg
  gi_wp2
  gi_loopw [7] (fun i wr => ∃ (k : Nat) (U' : Nat → Prop), k ≤ N ∧ i = .int .i64 k ∧ J (bs.take k) U' wr ∧ Grow U U' W wr ∧ RowRd bx (.slice a N c) bs wr ∧ (∀ b, U' b → ¬ (b = bx ∨ (Value.slice a N c).ownBlock = some b))) (fun i _ => N - (intOf i).toNat)
  case atStart => exact ⟨0, U, Nat.zero_le _, rfl, by simpa using h0, Grow.refl hlt, hR, hD⟩
  case round =>
    obtain ⟨k, U', hk, rfl, hj, gr, hR', hD'⟩ := hrel
    have HD := Lib.hid hD'
    clear hbx hD h0 hR
    by_cases hk2 : k < N
    · have hkb : k < bs.length := by rw [HN.out]; exact hk2
      obtain ⟨g, rfl⟩ := HG.out (by rw [HN.out]; omega)
      have hown := hR'.2.2
      rw [HN.out] at hown
      have hc : wr.cell? ⟨g, k, none⟩ = some (.pointer (some ⟨bs[k], 0, none⟩)) := own_cell hown (by rw [List.getElem?_map, List.getElem?_eq_getElem hkb]; rfl)
      have hsp : bs = bs.take k ++ bs[k] :: bs.drop (k + 1) := by rw [List.getElem_cons_drop, List.take_append_drop]
      have hsn : bs.take (k + 1) = bs.take k ++ [bs[k]] := by rw [List.take_succ_eq_append_getElem hkb]
      obtain ⟨fn, tmps, assign, body, hy, hR2⟩ := hY (bs.take k) bs[k] (bs.drop (k + 1)) U' wr hsp.symm hj gr hD' hR'
      have HSN := Lib.hid hsn
      have HR := Lib.hid hR'
      clear hsn hown hR' hD' hj
      generalize bs[k] = eb at hc hy HSN hR2 hsp
      clear hkb hsp
      gi_wp2
      refine hR2.mono ?_
      rintro e W3 ⟨U3, g3, (⟨rfl, hj3⟩ | ⟨rfl, hjx3⟩)⟩
      · have gr3 := gr.trans g3
        have hR3 : RowRd bx (.slice (some ⟨g, 0, none⟩) N c) bs W3 := HR.out.kept g3.kept (fun h => HD.out _ h (.inl rfl)) (fun b hb h => HD.out b h (.inr hb))
        have hD3 : ∀ b, U3 b → ¬ (b = bx ∨ (Value.slice (some ⟨g, 0, none⟩) N c).ownBlock = some b) := by
          intro b hb hd
          rcases g3.new b hb with h | h
          · exact HD.out b h hd
          · rcases hd with rfl | hd
            · have := HR.out.2.1; omega
            · have := (HR.out.2.2.lt b hd).2; omega
        rw [← HSN.out] at hj3
        have H3 := Lib.hid (And.intro hj3 (And.intro gr3 (And.intro hR3 hD3)))
        clear hy hR2 g3 gr hj3 gr3 hR3 hD3 hc
        gi_wp2
        go_roundw
        case rel => exact ⟨k + 1, U3, by omega, by go_num, H3.out.1, H3.out.2.1, H3.out.2.2.1, H3.out.2.2.2⟩
        case measure => simp [intOf]; omega
      · have gr3 := gr.trans g3
        clear hy hR2 g3 gr hc
        gi_wp2
        exact bodyPost_ret (results_none rfl _ _ _) rfl ⟨_, U3, rfl, gr3, .inr hjx3⟩
    · have hkN : k = N := by omega
      have htk : bs.take k = bs := List.take_of_length_le (by rw [HN.out]; omega)
      rw [htk] at hj
      clear htk hkN
      gi_wp2
      go_end0
      first | exact ⟨_, U', rfl, gr, .inl ⟨bs, rfl, hj⟩⟩ | exact ⟨⟨_, rfl⟩, U', gr, .inl ⟨bs, rfl, hj⟩⟩

set_option maxRecDepth 100000 in
theorem VE.values_any (a : Option Addr) (n c : Nat) (w : World) :
    Calls Tryz.prog 159 #[.slice a n c] w fun e w' => ∃ bx, e = .returned (.func (.func 163) #[] #[.pointer (some ⟨bx, 0, none⟩)]) ∧ Box w' bx (.slice a n c) ∧ Kept (fun _ => False) w w' ∧ w.heap.size ≤ bx := by
  refine Calls.mono (R := fun e w' => e = .returned (.func (.func 163) #[] #[.pointer (some ⟨w.heap.size, 0, none⟩)]) ∧ w' = w.alloc (.cells #[.slice a n c] 167)) ?_ ?_
  · go_enter Tryz.func159, Tryz.ntmps159
    go_wp2_with fail
    go_ret
    exact ⟨rfl, rfl⟩
  · rintro e w' ⟨rfl, rfl⟩
    exact ⟨_, rfl, Box.new w _ _, Kept.one_alloc w _, Nat.le_refl _⟩
theorem VE.values_enters (args : Array Value) (w : World) : (callFunc 163 args).run Tryz.prog w = .ok (.enter 163 args) w := by
  exact enters_body Tryz.func163 (by kernel_rfl) rfl args w

set_option maxRecDepth 100000 in
set_option maxHeartbeats 1000000 in
theorem VA.values1 (bx : Nat) (sv : Value) (bs : List Nat) (hbs : bs.length ≤ 1000000) :
    IterG Tryz.prog 208 #[.pointer (some ⟨bx, 0, none⟩)] (fun b : Nat => #[.pointer (some ⟨b, 0, none⟩)]) (fun l => l = bs) (fun b => b = bx ∨ sv.ownBlock = some b) (RowRd bx sv bs) := by
  intro l J Jx U W hJ hJx hY h0 hD hlt hR
  obtain ⟨a, c, rfl, hg, -, hnc⟩ := own_form hR.2.2
  have hbx := hR.1
  obtain ⟨N, hN⟩ : ∃ N, bs.length = N := ⟨_, rfl⟩
  rw [hN] at hbx hbs hnc
  have HN := Lib.hid hN
  refine callsIn_of_wp Tryz.func208 rfl trivial ?_ rfl
  simp only [Tryz.ntmps208, List.size_toArray, List.length_cons, List.length_nil, Nat.reduceAdd, Nat.reduceSub, Array.replicate_succ, Array.replicate_zero, List.push_toArray, List.append_toArray, List.nil_append, List.cons_append]
  rw [hN] at hR hD hY
  have HG := Lib.hid hg
  have HJ := Lib.hid hJ
  clear hN hg
  gi_wp2
  gi_loopw [7] (fun i wr => ∃ (k : Nat) (U' : Nat → Prop), k ≤ N ∧ i = .int .i64 k ∧ J (bs.take k) U' wr ∧ Grow U U' W wr ∧ RowRd bx (.slice a N c) bs wr ∧ (∀ b, U' b → ¬ (b = bx ∨ (Value.slice a N c).ownBlock = some b))) (fun i _ => N - (intOf i).toNat)
  case atStart => exact ⟨0, U, Nat.zero_le _, rfl, by simpa using h0, Grow.refl hlt, hR, hD⟩
  case round =>
    obtain ⟨k, U', hk, rfl, hj, gr, hR', hD'⟩ := hrel
    have HD := Lib.hid hD'
    clear hbx hD h0 hR
    by_cases hk2 : k < N
    · have hkb : k < bs.length := by rw [HN.out]; exact hk2
      obtain ⟨g, rfl⟩ := HG.out (by rw [HN.out]; omega)
      have hown := hR'.2.2
      rw [HN.out] at hown
      have hc : wr.cell? ⟨g, k, none⟩ = some (.pointer (some ⟨bs[k], 0, none⟩)) := own_cell hown (by rw [List.getElem?_map, List.getElem?_eq_getElem hkb]; rfl)
      have hsp : bs = bs.take k ++ bs[k] :: bs.drop (k + 1) := by rw [List.getElem_cons_drop, List.take_append_drop]
      have hsn : bs.take (k + 1) = bs.take k ++ [bs[k]] := by rw [List.take_succ_eq_append_getElem hkb]
      obtain ⟨fn, tmps, assign, body, hy, hR2⟩ := hY (bs.take k) bs[k] (bs.drop (k + 1)) U' wr hsp.symm hj gr hD' hR'
      have HSN := Lib.hid hsn
      have HR := Lib.hid hR'
      clear hsn hown hR' hD' hj
      generalize bs[k] = eb at hc hy HSN hR2 hsp
      clear hkb hsp
      gi_wp2
      refine hR2.mono ?_
      rintro e W3 ⟨U3, g3, (⟨rfl, hj3⟩ | ⟨rfl, hjx3⟩)⟩
      · have gr3 := gr.trans g3
        have hR3 : RowRd bx (.slice (some ⟨g, 0, none⟩) N c) bs W3 := HR.out.kept g3.kept (fun h => HD.out _ h (.inl rfl)) (fun b hb h => HD.out b h (.inr hb))
        have hD3 : ∀ b, U3 b → ¬ (b = bx ∨ (Value.slice (some ⟨g, 0, none⟩) N c).ownBlock = some b) := by
          intro b hb hd
          rcases g3.new b hb with h | h
          · exact HD.out b h hd
          · rcases hd with rfl | hd
            · have := HR.out.2.1; omega
            · have := (HR.out.2.2.lt b hd).2; omega
        rw [← HSN.out] at hj3
        have H3 := Lib.hid (And.intro hj3 (And.intro gr3 (And.intro hR3 hD3)))
        clear hy hR2 g3 gr hj3 gr3 hR3 hD3 hc
        gi_wp2
        go_roundw
        case rel => exact ⟨k + 1, U3, by omega, by go_num, H3.out.1, H3.out.2.1, H3.out.2.2.1, H3.out.2.2.2⟩
        case measure => simp [intOf]; omega
      · have gr3 := gr.trans g3
        clear hy hR2 g3 gr hc
        gi_wp2
        exact bodyPost_ret (results_none rfl _ _ _) rfl ⟨_, U3, rfl, gr3, .inr hjx3⟩
    · have hkN : k = N := by omega
      have htk : bs.take k = bs := List.take_of_length_le (by rw [HN.out]; omega)
      rw [htk] at hj
      clear htk hkN
      gi_wp2
      go_end0
      first | exact ⟨_, U', rfl, gr, .inl ⟨bs, rfl, hj⟩⟩ | exact ⟨⟨_, rfl⟩, U', gr, .inl ⟨bs, rfl, hj⟩⟩

set_option maxRecDepth 100000 in
theorem VA.values_any (a : Option Addr) (n c : Nat) (w : World) :
    Calls Tryz.prog 206 #[.slice a n c] w fun e w' => ∃ bx, e = .returned (.func (.func 208) #[] #[.pointer (some ⟨bx, 0, none⟩)]) ∧ Box w' bx (.slice a n c) ∧ Kept (fun _ => False) w w' ∧ w.heap.size ≤ bx := by
  refine Calls.mono (R := fun e w' => e = .returned (.func (.func 208) #[] #[.pointer (some ⟨w.heap.size, 0, none⟩)]) ∧ w' = w.alloc (.cells #[.slice a n c] 168)) ?_ ?_
  · go_enter Tryz.func206, Tryz.ntmps206
    go_wp2_with fail
    go_ret
    exact ⟨rfl, rfl⟩
  · rintro e w' ⟨rfl, rfl⟩
    exact ⟨_, rfl, Box.new w _ _, Kept.one_alloc w _, Nat.le_refl _⟩
theorem VA.values_enters (args : Array Value) (w : World) : (callFunc 208 args).run Tryz.prog w = .ok (.enter 208 args) w := by
  exact enters_body Tryz.func208 (by kernel_rfl) rfl args w
end Go.Proofs.YtdkcnigghcbnpaaGreat
