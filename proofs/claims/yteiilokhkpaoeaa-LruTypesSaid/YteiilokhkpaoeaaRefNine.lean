/- swingbridgeref09.List: Drop, Put, Get, as they make of the row. -/
import Derived.Test.YteiilokhkpaoeaaRef9
import Derived.Test.YteiilokhkpaoeaaNum
import Derived.Deep.RegionLaw
import Derived.Deep.QuietTactic
import Derived.BigQuiet
namespace Go.Proofs.Yteiilokhkpaoeaa
set_option linter.unusedVariables false
set_option linter.unusedSimpArgs false
open Go.RowKit Go.MapKept

theorem iwrap_small {x : Int} (h0 : -9223372036854775808 ≤ x) (h1 : x ≤ 9223372036854775807) : IntKind.i64.wrap x = x := by
  have e1 : (2 : Int) ^ IntKind.i64.bits = 18446744073709551616 := by decide
  have e2 : (2 : Int) ^ (IntKind.i64.bits - 1) = 9223372036854775808 := by decide
  have e3 : IntKind.i64.signed = true := rfl
  simp only [IntKind.wrap, e1, e2, e3, Bool.true_and, decide_eq_true_eq]
  split <;> omega

section
variable {w : World} {br : Nat} {most : Int} {sv : Value} {ps : List P9} {k : ByteArray}

theorem pairE : Elem Try.prog 59 58 (.agg #[.string ⟨#[]⟩, .int .i64 0]) 2 24 := ⟨Try.underlying59, info9, rfl, by omega⟩

theorem own_empty (w : World) (e size : Nat) : (w.alloc (.cells #[] e)).ownsRow 0 e size (.slice (some ⟨w.heap.size, 0, none⟩) 0 0) 0 [] :=
  ⟨by simp, .inr ⟨w.heap.size, 0, #[], rfl, Nat.zero_le _, heap_alloc_new w _, Nat.le_refl _, by unfold maxLen; omega, by simp, by simp⟩⟩

theorem holds_nil {w : World} {a : Option Addr} {ys : List Value} (h : ys.length = 0) : Holds9 w a ys := by
  intro j u hj
  have := (List.getElem?_eq_some_iff.1 hj).1
  omega
theorem holds_part {w : World} {base e size n g c : Nat} {xs : List Value} (h : w.ownsRow base e size (.slice (some ⟨g, 0, none⟩) n c) n xs) (o : Nat) (ys : List Value) (hy : ∀ j u, ys[j]? = some u → xs[o + j]? = some u) : Holds9 w (some ⟨g, o, none⟩) ys := by
  intro j u hj
  refine ⟨_, rfl, ?_⟩
  rw [add_off]
  exact own_cell h (hy j u hj)

theorem ref9_drop_miss (h : Ref9 w br most sv ps) (hl : ps.length ≤ 1000) (hk : ∀ p ∈ ps, p.1 ≠ k) :
    Calls Try.prog 39 #[.pointer (some ⟨br, 0, none⟩), .string k] w fun e w' => e = .returned (.bool false) ∧ w = w' := by
  go_enter Try.func39, Try.ntmps39
  go_wp2_with fail
  refine (ref9_find_miss h (by omega) hk).mono ?_
  rintro e w' ⟨rfl, rfl⟩
  go_wp2_with fail
  go_ret
  exact ⟨rfl, rfl⟩

set_option maxRecDepth 100000 in
set_option maxHeartbeats 1000000 in
theorem ref9_drop_hit {l1 l2 : List P9} {p : P9} (h : Ref9 w br most sv (l1 ++ p :: l2)) (hl : (l1 ++ p :: l2).length ≤ 1000) (hk : ∀ q ∈ l1, q.1 ≠ p.1) :
    Calls Try.prog 39 #[.pointer (some ⟨br, 0, none⟩), .string p.1] w fun e w' => ∃ sv', e = .returned (.bool true) ∧ Ref9 w' br most sv' (l1 ++ l2) ∧ Kept (fun b => b = br) w w' ∧ (∀ b, sv'.ownBlock = some b → w.heap.size ≤ b) := by
  go_enter Try.func39, Try.ntmps39
  go_wp2_with fail
  refine (ref9_find_hit h (by omega) hk).mono ?_
  rintro e w' ⟨rfl, rfl⟩
  obtain ⟨a, c, rfl, hg, -, hnc⟩ := own_form h.own
  have hs := h.sl
  have hbr := h.row.lt
  have hown := h.own
  have hlen : (l1 ++ p :: l2).length = l1.length + 1 + l2.length := by simp <;> omega
  obtain ⟨g, rfl⟩ := hg (by omega)
  have hne : g ≠ br := fun e => h.ne (by simp [Value.ownBlock, e])
  rw [hlen] at hs hown hnc hl
  have hf1 := flat9_len l1
  have hf2 := flat9_len l2
  obtain ⟨i, hi⟩ : ∃ i, i = l1.length := ⟨_, rfl⟩
  obtain ⟨m, hm⟩ : ∃ m, m = l2.length := ⟨_, rfl⟩
  rw [← hi, ← hm] at hs hown hnc hl
  rw [← hi] at hf1 ⊢
  rw [← hm] at hf2
  have HH := Lib.hid h
  have HI := Lib.hid hi
  have HM := Lib.hid hm
  have hglt := (hown.lt g rfl).2
  have hown0 : (w.alloc (.cells #[] 58)).drew.ownsRow 0 58 2 (.slice (some ⟨w.heap.size, 0, none⟩) 0 0) 0 [] := own_empty w 58 2
  have hs1 : (w.alloc (.cells #[] 58)).drew.cell? ⟨br, 1, none⟩ = some (.slice (some ⟨g, 0, none⟩) (i + 1 + m) c) := ((Kept.one_alloc w _).cell (p := ⟨br, 1, none⟩) hbr (fun e => e)).trans hs
  have hh1 : ∀ w', Kept (fun b => b ≠ g) w w' → Holds9 w' (some ⟨g, 0, none⟩) (flat9 l1) ∧ Holds9 w' (some ⟨g, (i + 1) * 2, none⟩) (flat9 l2) := by
    intro w' k
    have := ownsRow_kept hown k (fun b e => by simp [Value.ownBlock] at e; omega)
    refine ⟨holds_part this 0 _ ?_, holds_part this ((i + 1) * 2) _ ?_⟩
    · intro j u hj
      rw [flat9_append, Nat.zero_add, List.getElem?_append_left (List.getElem?_eq_some_iff.1 hj).1]
      exact hj
    · intro j u hj
      rw [flat9_append, List.getElem?_append_right (by omega), hf1, show (i + 1) * 2 + j - i * 2 = j + 1 + 1 by omega]
      exact hj
  have HK := Lib.hid hh1
  have ci : i ≤ c := by omega
  have hwr : IntKind.i64.wrap ((i : Int) + 1) = (i : Int) + 1 := iwrap_small (by omega) (by omega)
  have hp1 : (0 : Int) ≤ (i : Int) + 1 := by omega
  have hp3 : (i : Int) ≤ (i : Int) + 1 := by omega
  have hp2 : (i : Int) + 1 ≤ (i : Int) + 1 + (m : Int) := by omega
  have htn : ((i : Int) + 1).toNat = i + 1 := by omega
  have hsub : i + 1 + m - (i + 1) = m := by omega
  have k01 : Kept (fun _ => False) w (w.alloc (.cells #[] 58)).drew := (Kept.one_alloc w _).drew
  have hn1 := (hh1 _ (k01.mono (fun _ _ e => e.elim))).1
  clear hh1 h hi hm hg hown hk hlen
  by_cases hcap : i + 1 = c
  · obtain rfl : c = i + 1 := by omega
    obtain rfl : m = 0 := by omega
    rw [Nat.add_zero] at hs hs1 hsub hnc hl
    clear hcap
    go_wp2_with fail
    go_region_law (first
      | (refine step_append_mine rfl (.tmp 12) (.tmp 18) pairE rfl rfl hown0 (some ⟨g, 0, none⟩) i (i + 1) (flat9 l1) rfl hf1 hn1 (flat9_one l1) (by unfold maxLen; omega) (by omega) ?_
         intro a1 c1 w2 o2 k2 b2
         rw [Nat.zero_add] at o2
         have b2' := b2
         clear b2
         have hs2 : w2.cell? ⟨br, 1, none⟩ = some (.slice (some ⟨g, 0, none⟩) (i + 1) (i + 1)) := (k2.cell (p := ⟨br, 1, none⟩) (Nat.lt_of_lt_of_le hbr k01.size) (fun e => by have e : some w.heap.size = some br := e; have := Option.some.inj e; omega)).trans hs1
         have hn2 : Holds9 w2 (some ⟨g, 0, none⟩) (flat9 l2) := (holds_nil (by omega)))
      | (refine step_append_mine rfl (.tmp 19) (.tmp 26) pairE rfl rfl o2 (some ⟨g, 0, none⟩) 0 0 (flat9 l2) rfl hf2 hn2 (flat9_one l2) (by unfold maxLen; omega) (by omega) ?_
         intro a3 c3 w3 o3 k3 b3
         have hb1 : ∀ b, (Value.slice a1 i c1).ownBlock = some b → w.heap.size ≤ b := by
           intro b e
           have z1 : (w.alloc (.cells #[] 58)).drew.heap.size = w.heap.size + 1 := by simp
           rw [Nat.zero_add] at b2'
           rcases b2' with h | h
           · have : some w.heap.size = some b := h.symm.trans e
             exact Nat.le_of_eq (Option.some.inj this)
           · have := Option.some.inj (h.symm.trans e)
             omega
         have k12 : Kept (fun _ => False) w w2 := k01.trans k2 (fun b hb e => by have e : some w.heap.size = some b := e; have := Option.some.inj e; omega)
         have k13 : Kept (fun _ => False) w w3 := k12.trans k3 (fun b hb e => by have := hb1 b e; omega)
         have hs3 : w3.cell? ⟨br, 1, none⟩ = some (.slice (some ⟨g, 0, none⟩) (i + 1) (i + 1)) := (k13.cell (p := ⟨br, 1, none⟩) hbr (fun e => e)).trans hs
         have hr3 : RowAt w3 br 2 := HH.out.row.kept k13 (fun e => e)
         have hf3 := hr3.frozen 1
         have hb3 : ∀ b, (Value.slice a3 i c3).ownBlock = some b → w.heap.size ≤ b := by
           intro b e
           rcases b3 with h | h
           · exact hb1 b (h.symm.trans e)
           · have := Option.some.inj (h.symm.trans e)
             have := k12.size
             omega
         have hn3 : (Value.slice a3 i c3).ownBlock ≠ some br := fun e => by have := hb3 br e; omega
         have hlen3 : (l1 ++ l2).length = i := by have := HI.out; have := HM.out; simp <;> omega
         have FIN := Lib.hid (show Ref9 (w3.setCell ⟨br, 1, none⟩ (.slice a3 i c3)) br most (.slice a3 i c3) (l1 ++ l2) ∧ Kept (fun b => b = br) w (w3.setCell ⟨br, 1, none⟩ (.slice a3 i c3)) ∧ (∀ b, (Value.slice a3 i c3).ownBlock = some b → w.heap.size ≤ b) from
           ⟨⟨hr3.setCell _ _, (cell_set_other _ (by omega)).trans ((k13.cell (p := ⟨br, 0, none⟩) hbr (fun e => e)).trans HH.out.most), cell_set_same hr3 (by omega) _,
             by rw [hlen3, flat9_append]; exact ownsRow_kept o3 (Kept.one_set _ _ _) (fun b e h => hn3 (by have h : b = br := h; rw [← h]; exact e)), hn3⟩, (k13.mono (fun _ _ e => e.elim)).setCell _ _ (fun _ => rfl), hb3⟩)
         clear hb3 hn3 hlen3 k12 k13 hb1 hr3))
    all_goals
      go_wp2_with fail
      go_ret
      exact ⟨_, rfl, FIN.out⟩
  · have hcap' : ¬ (c = i + 1) := by omega
    go_wp2_with fail
    go_region_law (first
      | (refine step_append_mine rfl (.tmp 12) (.tmp 18) pairE rfl rfl hown0 (some ⟨g, 0, none⟩) i c (flat9 l1) rfl hf1 hn1 (flat9_one l1) (by unfold maxLen; omega) (by omega) ?_
         intro a1 c1 w2 o2 k2 b2
         rw [Nat.zero_add] at o2
         have b2' := b2
         clear b2
         have hs2 : w2.cell? ⟨br, 1, none⟩ = some (.slice (some ⟨g, 0, none⟩) (i + 1 + m) c) := (k2.cell (p := ⟨br, 1, none⟩) (Nat.lt_of_lt_of_le hbr k01.size) (fun e => by have e : some w.heap.size = some br := e; have := Option.some.inj e; omega)).trans hs1
         have hn2 : Holds9 w2 (some ⟨g, (i + 1) * 2, none⟩) (flat9 l2) := (HK.out _ ((k01.mono (S' := fun b => b ≠ g) (fun _ _ e => e.elim)).trans k2 (fun b hb e => by have e : some w.heap.size = some b := e; have := Option.some.inj e; omega))).2)
      | (refine step_append_mine rfl (.tmp 19) (.tmp 26) pairE rfl rfl o2 (some ⟨g, (i + 1) * 2, none⟩) m (c - (i + 1)) (flat9 l2) rfl hf2 hn2 (flat9_one l2) (by unfold maxLen; omega) (by omega) ?_
         intro a3 c3 w3 o3 k3 b3
         have hb1 : ∀ b, (Value.slice a1 i c1).ownBlock = some b → w.heap.size ≤ b := by
           intro b e
           have z1 : (w.alloc (.cells #[] 58)).drew.heap.size = w.heap.size + 1 := by simp
           rw [Nat.zero_add] at b2'
           rcases b2' with h | h
           · have : some w.heap.size = some b := h.symm.trans e
             exact Nat.le_of_eq (Option.some.inj this)
           · have := Option.some.inj (h.symm.trans e)
             omega
         have k12 : Kept (fun _ => False) w w2 := k01.trans k2 (fun b hb e => by have e : some w.heap.size = some b := e; have := Option.some.inj e; omega)
         have k13 : Kept (fun _ => False) w w3 := k12.trans k3 (fun b hb e => by have := hb1 b e; omega)
         have hs3 : w3.cell? ⟨br, 1, none⟩ = some (.slice (some ⟨g, 0, none⟩) (i + 1 + m) c) := (k13.cell (p := ⟨br, 1, none⟩) hbr (fun e => e)).trans hs
         have hr3 : RowAt w3 br 2 := HH.out.row.kept k13 (fun e => e)
         have hf3 := hr3.frozen 1
         have hb3 : ∀ b, (Value.slice a3 (i + m) c3).ownBlock = some b → w.heap.size ≤ b := by
           intro b e
           rcases b3 with h | h
           · exact hb1 b (h.symm.trans e)
           · have := Option.some.inj (h.symm.trans e)
             have := k12.size
             omega
         have hn3 : (Value.slice a3 (i + m) c3).ownBlock ≠ some br := fun e => by have := hb3 br e; omega
         have hlen3 : (l1 ++ l2).length = i + m := by have := HI.out; have := HM.out; simp <;> omega
         have FIN := Lib.hid (show Ref9 (w3.setCell ⟨br, 1, none⟩ (.slice a3 (i + m) c3)) br most (.slice a3 (i + m) c3) (l1 ++ l2) ∧ Kept (fun b => b = br) w (w3.setCell ⟨br, 1, none⟩ (.slice a3 (i + m) c3)) ∧ (∀ b, (Value.slice a3 (i + m) c3).ownBlock = some b → w.heap.size ≤ b) from
           ⟨⟨hr3.setCell _ _, (cell_set_other _ (by omega)).trans ((k13.cell (p := ⟨br, 0, none⟩) hbr (fun e => e)).trans HH.out.most), cell_set_same hr3 (by omega) _,
             by rw [hlen3, flat9_append]; exact ownsRow_kept o3 (Kept.one_set _ _ _) (fun b e h => hn3 (by have h : b = br := h; rw [← h]; exact e)), hn3⟩, (k13.mono (fun _ _ e => e.elim)).setCell _ _ (fun _ => rfl), hb3⟩)
         clear hb3 hn3 hlen3 k12 k13 hb1 hr3))
    all_goals
      go_wp2_with fail
      go_ret
      exact ⟨_, rfl, FIN.out⟩

/-- The pairs of all other keys. -/
def dropP (k : ByteArray) (ps : List P9) : List P9 := ps.filter fun p => decide (p.1 ≠ k)

theorem split_pair {ps : List P9} (hn : (ps.map (·.1)).Nodup) (k : ByteArray) : ((∀ p ∈ ps, p.1 ≠ k) ∧ dropP k ps = ps) ∨ ∃ l1 p l2, ps = l1 ++ p :: l2 ∧ p.1 = k ∧ (∀ q ∈ l1, q.1 ≠ p.1) ∧ dropP k ps = l1 ++ l2 := by
  unfold dropP
  by_cases h : ∃ x ∈ ps, x.1 = k
  · obtain ⟨x, hx, e⟩ := h
    obtain ⟨l1, l2, rfl⟩ := List.append_of_mem hx
    have h1 : ∀ y ∈ l1, y.1 ≠ k := by
      intro y hy e'
      have : y.1 ∈ l1.map (·.1) := List.mem_map_of_mem hy
      simp only [List.map_append, List.map_cons] at hn
      grind
    have h2 : ∀ y ∈ l2, y.1 ≠ k := by
      intro y hy e'
      have : y.1 ∈ l2.map (·.1) := List.mem_map_of_mem hy
      simp only [List.map_append, List.map_cons] at hn
      grind
    refine .inr ⟨l1, x, l2, rfl, e, fun q hq => by rw [e]; exact h1 q hq, ?_⟩
    rw [List.filter_append, List.filter_cons_of_neg (by simp [e]), List.filter_eq_self.2 (by simpa using h1), List.filter_eq_self.2 (by simpa using h2)]
  · have h' : ∀ x ∈ ps, x.1 ≠ k := fun x hx e => h ⟨x, hx, e⟩
    exact .inl ⟨h', List.filter_eq_self.2 (by simpa using h')⟩

/-- What a call on the document's list may change: its block, its row. -/
theorem ref9_drop_any (h : Ref9 w br most sv ps) (hl : ps.length ≤ 1000) (hn : (ps.map (·.1)).Nodup) :
    Calls Try.prog 39 #[.pointer (some ⟨br, 0, none⟩), .string k] w fun e w' => ∃ sv', e = .returned (.bool (decide (∃ p ∈ ps, p.1 = k))) ∧ Ref9 w' br most sv' (dropP k ps) ∧ Kept (Rfp br sv) w w' ∧ (∀ b, Rfp br sv' b → Rfp br sv b ∨ w.heap.size ≤ b) := by
  rcases split_pair hn k with ⟨h1, h2⟩ | ⟨l1, p, l2, rfl, rfl, h1, h2⟩
  · rw [h2]
    refine (ref9_drop_miss h hl h1).mono ?_
    rintro e w' ⟨rfl, rfl⟩
    refine ⟨sv, ?_, h, .refl _ _, fun _ h => .inl h⟩
    simp only [Ending.returned.injEq, Value.bool.injEq]
    exact (decide_eq_false (fun ⟨p, hp, e⟩ => h1 p hp e)).symm
  · rw [h2]
    refine (ref9_drop_hit h hl h1).mono ?_
    rintro e w' ⟨sv', rfl, h3, h4, h5⟩
    refine ⟨sv', ?_, h3, h4.mono (fun _ _ e => .inl e), fun b hb => ?_⟩
    · simp only [Ending.returned.injEq, Value.bool.injEq]
      exact (decide_eq_true ⟨p, by simp, rfl⟩).symm
    · rcases hb with hb | hb
      · exact .inl (.inl hb)
      · exact .inr (h5 b hb)

/-- More is appended, in whatever world behind; the row is written into its place. -/
theorem Ref9.appended {w1 w1a w' : World} {sv1 sv' : Value} {qs rs : List P9} {n : Nat} (h1 : Ref9 w1 br most sv1 qs) (k0 : Kept (fun _ => False) w1 w1a)
    (hn : n = (qs ++ rs).length) (ho : w'.ownsRow 0 58 2 sv' n (flat9 qs ++ flat9 rs)) (k : Kept (fun b => sv1.ownBlock = some b) w1a w') (hb : sv'.ownBlock = sv1.ownBlock ∨ sv'.ownBlock = some w1a.heap.size) :
    (Ref9 (w'.setCell ⟨br, 1, none⟩ sv') br most sv' (qs ++ rs) ∧ Kept (Rfp br sv1) w1 (w'.setCell ⟨br, 1, none⟩ sv') ∧ (∀ b, Rfp br sv' b → Rfp br sv1 b ∨ w1.heap.size ≤ b)) ∧ w'.cell? ⟨br, 1, none⟩ = some sv1 ∧ w'.frozen? ⟨br, 1, none⟩ = false := by
  have k1 : Kept (fun b => sv1.ownBlock = some b) w1 w' := (k0.mono (fun _ _ e => e.elim)).trans k (fun _ _ e => e)
  have hr := h1.row.kept k1 h1.ne
  have hnew : ∀ b, sv'.ownBlock = some b → sv1.ownBlock = some b ∨ w1.heap.size ≤ b := by
    intro b e
    rcases hb with h | h
    · exact .inl (h ▸ e)
    · have := Option.some.inj (h.symm.trans e)
      have := k0.size
      exact .inr (by omega)
  have hne : sv'.ownBlock ≠ some br := by
    intro e
    rcases hnew br e with h | h
    · exact h1.ne h
    · have := h1.row.lt; omega
  refine ⟨⟨⟨hr.setCell _ _, (cell_set_other _ (by omega)).trans ((k1.cell (p := ⟨br, 0, none⟩) h1.row.lt h1.ne).trans h1.most), cell_set_same hr (by omega) _, ?_, hne⟩, ?_, ?_⟩, (k1.cell (p := ⟨br, 1, none⟩) h1.row.lt h1.ne).trans h1.sl, hr.frozen 1⟩
  · rw [← hn, flat9_append]
    exact ownsRow_kept ho (Kept.one_set _ _ _) (fun b e h => hne (by have h : b = br := h; rw [← h]; exact e))
  · exact (k1.mono (fun _ _ e => .inr e)).setCell _ _ (fun _ => .inl rfl)
  · rintro b (rfl | h)
    · exact .inl (.inl rfl)
    · exact (hnew b h).imp .inr id

/-- A new row takes the old one's place. -/
theorem Ref9.replaced {w1 w' : World} {sv1 sv' : Value} {qs rs : List P9} {n : Nat} (h1 : Ref9 w1 br most sv1 qs) (k1 : Kept (fun _ => False) w1 w')
    (hn : n = rs.length) (ho : w'.ownsRow 0 58 2 sv' n (flat9 rs)) (hb : ∀ b, sv'.ownBlock = some b → w1.heap.size ≤ b) :
    (Ref9 (w'.setCell ⟨br, 1, none⟩ sv') br most sv' rs ∧ Kept (Rfp br sv1) w1 (w'.setCell ⟨br, 1, none⟩ sv') ∧ (∀ b, Rfp br sv' b → Rfp br sv1 b ∨ w1.heap.size ≤ b)) ∧ w'.cell? ⟨br, 1, none⟩ = some sv1 ∧ w'.frozen? ⟨br, 1, none⟩ = false := by
  have hr := h1.row.kept k1 (fun e => e)
  have hne : sv'.ownBlock ≠ some br := by
    intro e
    have := hb br e
    have := h1.row.lt
    omega
  refine ⟨⟨⟨hr.setCell _ _, (cell_set_other _ (by omega)).trans ((k1.cell (p := ⟨br, 0, none⟩) h1.row.lt (fun e => e)).trans h1.most), cell_set_same hr (by omega) _, ?_, hne⟩, ?_, ?_⟩, (k1.cell (p := ⟨br, 1, none⟩) h1.row.lt (fun e => e)).trans h1.sl, hr.frozen 1⟩
  · rw [← hn]
    exact ownsRow_kept ho (Kept.one_set _ _ _) (fun b e h => hne (by have h : b = br := h; rw [← h]; exact e))
  · exact (k1.mono (fun _ _ e => e.elim)).setCell _ _ (fun _ => .inl rfl)
  · rintro b (rfl | h)
    · exact .inl (.inl rfl)
    · exact .inr (hb b h)

set_option maxRecDepth 100000 in
set_option maxHeartbeats 1000000 in
theorem ref9_put_room {v : Int} (h : Ref9 w br most sv ps) (hl : ps.length ≤ 999) (hn : (ps.map (·.1)).Nodup) (hr : ((dropP k ps).length : Int) + 1 ≤ most) :
    Calls Try.prog 28 #[.pointer (some ⟨br, 0, none⟩), .string k, .int .i64 v] w fun e w' => ∃ sv', e = .returned (.tuple #[.string ⟨#[]⟩, .bool false]) ∧ Ref9 w' br most sv' (dropP k ps ++ [(k, v)]) ∧ Kept (Rfp br sv) w w' ∧ (∀ b, Rfp br sv' b → Rfp br sv b ∨ w.heap.size ≤ b) := by
  go_enter Try.func28, Try.ntmps28
  go_wp2_with fail
  refine (ref9_drop_any h (by omega) hn).mono ?_
  rintro e w1 ⟨sv1, rfl, h1, k1, f1⟩
  have hs := h1.sl
  have hown := ownsRow_kept h1.own (Kept.one_alloc w1 (.cells #[.string k, .int .i64 v] 58)) (fun _ _ e => e)
  obtain ⟨j, hj⟩ : ∃ j, j = (dropP k ps).length := ⟨_, rfl⟩
  have hj' : j ≤ ps.length := by rw [hj]; exact List.length_filter_le _ _
  rw [← hj] at hown hr
  obtain ⟨a, c, rfl, -, -, -⟩ := own_form h1.own
  rw [← hj] at hs hown h1 f1
  have HJ := Lib.hid hj
  have H1 := Lib.hid h1
  clear hj h1
  go_wp2_with (first
    | (refine wpList_append_mine rfl _ _ pairE rfl rfl hown (some ⟨w1.heap.size, 0, none⟩) 1 1 [.string k, .int .i64 v] rfl rfl (holds_block (heap_alloc_new w1 _)) (by simp [Value.oneCell']) (by unfold maxLen; omega) (by omega) ?_
       intro a' c' w' h2 h3 h4
       obtain ⟨HF, hs2, hf2⟩ := Ref9.appended (rs := [(k, v)]) H1.out (Kept.one_alloc w1 _) (by rw [HJ.out]; simp) h2 h3 h4
       have HF := Lib.hid HF
       clear h2 h3 h4
       go_frame)
    | fail)
  obtain ⟨w2, hw2⟩ : ∃ w2, w2 = w'.setCell ⟨br, 1, none⟩ (.slice a' (j + 1) c') := ⟨_, rfl⟩
  obtain ⟨hR, hK, hF⟩ := HF.out
  rw [← hw2] at hR hK ⊢
  have hs3 := hR.sl
  have hm3 := hR.most
  have FIN := Lib.hid (show Ref9 w2 br most (.slice a' (j + 1) c') (dropP k ps ++ [(k, v)]) ∧ Kept (Rfp br sv) w w2 ∧ (∀ b, Rfp br (.slice a' (j + 1) c') b → Rfp br sv b ∨ w.heap.size ≤ b) from
    ⟨hR, k1.trans hK (fun b hb e => (f1 b e).elim id (fun h => by omega)), fun b hb => (hF b hb).elim (f1 b) (fun h => .inr (Nat.le_trans k1.size h))⟩)
  clear hR hK hF HF k1 f1 hs hown hs2 hf2 hw2 h
  go_wp2_with fail
  go_quiet (fail)
  go_wp2_with fail
  go_ret2
  exact ⟨_, rfl, FIN.out.1.twin ⟨rfl, rfl, rfl, rfl⟩, FIN.out.2.1.twin ⟨rfl, rfl, rfl, rfl⟩, FIN.out.2.2⟩
set_option maxRecDepth 100000 in
set_option maxHeartbeats 1000000 in
theorem ref9_put_full {v : Int} {q : P9} {qs : List P9} (h : Ref9 w br most sv ps) (hl : ps.length ≤ 999) (hn : (ps.map (·.1)).Nodup) (hr : most < ((dropP k ps).length : Int) + 1) (hq : dropP k ps ++ [(k, v)] = q :: qs) :
    Calls Try.prog 28 #[.pointer (some ⟨br, 0, none⟩), .string k, .int .i64 v] w fun e w' => e = .returned (.tuple #[.string q.1, .bool true]) ∧ ∃ sv', Ref9 w' br most sv' qs ∧ Kept (Rfp br sv) w w' ∧ (∀ b, Rfp br sv' b → Rfp br sv b ∨ w.heap.size ≤ b) := by
  go_enter Try.func28, Try.ntmps28
  go_wp2_with fail
  refine (ref9_drop_any h (by omega) hn).mono ?_
  rintro e w1 ⟨sv1, rfl, h1, k1, f1⟩
  have hs := h1.sl
  have hown := ownsRow_kept h1.own (Kept.one_alloc w1 (.cells #[.string k, .int .i64 v] 58)) (fun _ _ e => e)
  obtain ⟨j, hj⟩ : ∃ j, j = (dropP k ps).length := ⟨_, rfl⟩
  have hj' : j ≤ ps.length := by rw [hj]; exact List.length_filter_le _ _
  rw [← hj] at hown hr
  obtain ⟨a, c, rfl, -, -, -⟩ := own_form h1.own
  rw [← hj] at hs hown h1 f1
  have HJ := Lib.hid hj
  have H1 := Lib.hid h1
  clear hj h1
  go_wp2_with (first
    | (refine wpList_append_mine rfl _ _ pairE rfl rfl hown (some ⟨w1.heap.size, 0, none⟩) 1 1 [.string k, .int .i64 v] rfl rfl (holds_block (heap_alloc_new w1 _)) (by simp [Value.oneCell']) (by unfold maxLen; omega) (by omega) ?_
       intro a' c' w' h2 h3 h4
       obtain ⟨HF, hs2, hf2⟩ := Ref9.appended (rs := [(k, v)]) H1.out (Kept.one_alloc w1 _) (by rw [HJ.out]; simp) h2 h3 h4
       have HF := Lib.hid HF
       clear h2 h3 h4
       go_frame)
    | fail)
  obtain ⟨w2, hw2⟩ : ∃ w2, w2 = w'.setCell ⟨br, 1, none⟩ (.slice a' (j + 1) c') := ⟨_, rfl⟩
  obtain ⟨hR, hK, hF⟩ := HF.out
  rw [← hw2] at hR hK ⊢
  have hs3 := hR.sl
  have hm3 := hR.most
  have FIN := Lib.hid (show Ref9 w2 br most (.slice a' (j + 1) c') (dropP k ps ++ [(k, v)]) ∧ Kept (Rfp br sv) w w2 ∧ (∀ b, Rfp br (.slice a' (j + 1) c') b → Rfp br sv b ∨ w.heap.size ≤ b) from
    ⟨hR, k1.trans hK (fun b hb e => (f1 b e).elim id (fun h => by omega)), fun b hb => (hF b hb).elim (f1 b) (fun h => .inr (Nat.le_trans k1.size h))⟩)
  clear hR hK hF HF k1 f1 hs hown hs2 hf2 hw2 h
  have hR2 := FIN.out.1
  rw [hq] at hR2
  have hq1 : (q :: qs).length = j + 1 := by rw [← hq]; have := HJ.out; simp <;> omega
  have hown2 := hR2.own
  rw [hq1] at hown2
  obtain ⟨_, _, e0, hg, -, hnc⟩ := own_form hown2
  cases e0
  obtain ⟨g, rfl⟩ := hg (by omega)
  have hc0 : w2.cell? ⟨g, 0, none⟩ = some (.string q.1) := own_cell hown2 rfl
  have hf2 := flat9_len qs
  rw [show qs.length = j by simpa using hq1] at hf2
  have HQ1 := Lib.hid hq1
  have HR2 := Lib.hid hR2
  have hbr2 := hR2.row.lt
  have hglt := (hown2.lt g rfl).2
  have hgne : g ≠ br := fun e => hR2.ne (by simp [Value.ownBlock, e])
  have hp1 : (1 : Int) ≤ (j : Int) + 1 := by omega
  have hp0 : (0 : Int) < (j : Int) + 1 := by omega
  have htj : j + 1 - 1 = j := by omega
  clear hq1 hR2 hg
  go_wp2_with fail
  go_quiet (fail)
  obtain ⟨w3, hw3, t3⟩ : ∃ w3, w3 = w2.drewN nq ∧ Twin w3 w2 := ⟨_, rfl, rfl, rfl, rfl, rfl⟩
  rw [← hw3]
  have HR3 := Lib.hid (HR2.out.twin t3)
  have FIN3 := Lib.hid (show Ref9 w3 br most (.slice (some ⟨g, 0, none⟩) (j + 1) c') (dropP k ps ++ [(k, v)]) ∧ Kept (Rfp br sv) w w3 ∧ (∀ b, Rfp br (.slice (some ⟨g, 0, none⟩) (j + 1) c') b → Rfp br sv b ∨ w.heap.size ≤ b) from ⟨FIN.out.1.twin t3, FIN.out.2.1.twin t3, FIN.out.2.2⟩)
  have hs5 := HR3.out.sl
  have hown3 := HR3.out.own
  have hc3 : w3.cell? ⟨g, 0, none⟩ = some (.string q.1) := by rw [HQ1.out] at hown3; exact own_cell hown3 rfl
  have hh3 : Holds9 (w3.alloc (.cells #[] 58)) (some ⟨g, 2, none⟩) (flat9 qs) := by
    have := ownsRow_kept hown3 (Kept.one_alloc w3 (.cells #[] 58)) (fun _ _ e => e)
    rw [HQ1.out] at this
    refine holds_part this 2 _ ?_
    intro i u hi
    rw [show 2 + i = i + 1 + 1 by omega]
    exact hi
  have hs6 : (w3.alloc (.cells #[] 58)).cell? ⟨br, 1, none⟩ = some (.slice (some ⟨g, 0, none⟩) (j + 1) c') := ((Kept.one_alloc w3 _).cell (p := ⟨br, 1, none⟩) HR3.out.row.lt (fun e => e)).trans hs5
  clear hw3 hs3 hm3 hc0 t3 hown2 hown3 FIN
  by_cases hcap : c' = 1
  · obtain rfl : c' = 1 := hcap
    obtain rfl : j = 0 := by omega
    go_wp2_with (first
      | (refine wpList_append_mine rfl _ _ pairE rfl rfl (own_empty w3 58 2) (some ⟨g, 0, none⟩) 0 0 (flat9 qs) rfl hf2 (holds_nil (by omega)) (flat9_one qs) (by unfold maxLen; omega) (by omega) ?_
         intro a4 c4 w4 h2 h3 h4
         rw [Nat.zero_add] at h2 h4
         have k4 : Kept (fun _ => False) w3 w4 := (Kept.one_alloc w3 _).trans h3 (fun b hb e => by have e : some w3.heap.size = some b := e; have := Option.some.inj e; omega)
         have hb4 : ∀ b, (Value.slice a4 0 c4).ownBlock = some b → w3.heap.size ≤ b := by
           intro b e
           rcases h4 with h | h
           · have e' : some w3.heap.size = some b := h.symm.trans e
             exact Nat.le_of_eq (Option.some.inj e')
           · have e' := Option.some.inj (h.symm.trans e)
             have z1 : (w3.alloc (.cells #[] 58)).heap.size = w3.heap.size + 1 := by simp
             omega
         obtain ⟨HF, hs4, hf4⟩ := Ref9.replaced HR3.out k4 (by have h := HQ1.out; rw [List.length_cons] at h; omega) h2 hb4
         have HF := Lib.hid HF
         clear h2 h3 h4 k4 hb4
         rw [Nat.zero_add]
         go_frame)
      | fail)
    go_ret2
    exact ⟨rfl, _, HF.out.1, FIN3.out.2.1.trans HF.out.2.1 (fun b hb e => (FIN3.out.2.2 b e).elim id (fun h => by omega)), fun b hb => (HF.out.2.2 b hb).elim (FIN3.out.2.2 b) (fun h => .inr (Nat.le_trans FIN3.out.2.1.size h))⟩
  · have hcap' : ¬ (c' = 1) := hcap
    go_wp2_with (first
      | (refine wpList_append_mine rfl _ _ pairE rfl rfl (own_empty w3 58 2) (some ⟨g, 2, none⟩) j (c' - 1) (flat9 qs) rfl hf2 hh3 (flat9_one qs) (by unfold maxLen; omega) (by omega) ?_
         intro a4 c4 w4 h2 h3 h4
         rw [Nat.zero_add] at h2 h4
         have k4 : Kept (fun _ => False) w3 w4 := (Kept.one_alloc w3 _).trans h3 (fun b hb e => by have e : some w3.heap.size = some b := e; have := Option.some.inj e; omega)
         have hb4 : ∀ b, (Value.slice a4 j c4).ownBlock = some b → w3.heap.size ≤ b := by
           intro b e
           rcases h4 with h | h
           · have e' : some w3.heap.size = some b := h.symm.trans e
             exact Nat.le_of_eq (Option.some.inj e')
           · have e' := Option.some.inj (h.symm.trans e)
             have z1 : (w3.alloc (.cells #[] 58)).heap.size = w3.heap.size + 1 := by simp
             omega
         obtain ⟨HF, hs4, hf4⟩ := Ref9.replaced HR3.out k4 (by have h := HQ1.out; rw [List.length_cons] at h; omega) h2 hb4
         have HF := Lib.hid HF
         clear h2 h3 h4 k4 hb4
         rw [Nat.zero_add]
         go_frame)
      | fail)
    go_ret2
    exact ⟨rfl, _, HF.out.1, FIN3.out.2.1.trans HF.out.2.1 (fun b hb e => (FIN3.out.2.2 b e).elim id (fun h => by omega)), fun b hb => (HF.out.2.2 b hb).elim (FIN3.out.2.2 b) (fun h => .inr (Nat.le_trans FIN3.out.2.1.size h))⟩

theorem ref9_get_miss (h : Ref9 w br most sv ps) (hl : ps.length ≤ 1000) (hk : ∀ p ∈ ps, p.1 ≠ k) :
    Calls Try.prog 35 #[.pointer (some ⟨br, 0, none⟩), .string k] w fun e w' => e = .returned (.tuple #[.int .i64 0, .bool false]) ∧ w = w' := by
  go_enter Try.func35, Try.ntmps35
  go_wp2_with fail
  refine (ref9_find_miss h (by omega) hk).mono ?_
  rintro e w' ⟨rfl, rfl⟩
  go_wp2_with fail
  go_ret2
  exact ⟨rfl, rfl⟩

set_option maxRecDepth 100000 in
set_option maxHeartbeats 1000000 in
theorem ref9_get_hit {l1 l2 : List P9} {p : P9} (h : Ref9 w br most sv (l1 ++ p :: l2)) (hl : (l1 ++ p :: l2).length ≤ 999) (hk : ∀ q ∈ l1, q.1 ≠ p.1) (hn : ((l1 ++ p :: l2).map (·.1)).Nodup) :
    Calls Try.prog 35 #[.pointer (some ⟨br, 0, none⟩), .string p.1] w fun e w' => e = .returned (.tuple #[.int .i64 p.2, .bool true]) ∧ ∃ sv', Ref9 w' br most sv' (l1 ++ l2 ++ [p]) ∧ Kept (Rfp br sv) w w' ∧ (∀ b, Rfp br sv' b → Rfp br sv b ∨ w.heap.size ≤ b) := by
  go_enter Try.func35, Try.ntmps35
  go_wp2_with fail
  refine (ref9_find_hit h (by omega) hk).mono ?_
  rintro e w' ⟨rfl, rfl⟩
  obtain ⟨g, c, rfl, hc1, hc2⟩ := h.at (i := l1.length) (p := p) (by simp)
  have hs := h.sl
  have hlen : l1.length < (l1 ++ p :: l2).length := by simp
  obtain ⟨N, hN⟩ : ∃ N, N = (l1 ++ p :: l2).length := ⟨_, rfl⟩
  rw [← hN] at hlen hs
  clear hN
  go_wp2_with fail
  obtain ⟨w1, hw1⟩ : ∃ w1, w1 = w.alloc (.cells #[.string p.1, .int .i64 p.2] 58) := ⟨_, rfl⟩
  have k1 : Kept (fun _ => False) w w1 := by rw [hw1]; exact Kept.one_alloc w _
  have hb1 : w1.heap[w.heap.size]? = some (.cells #[.string p.1, .int .i64 p.2] 58 (0, 0)) := by rw [hw1]; exact heap_alloc_new w _
  rw [← hw1]
  clear hw1 hc1 hc2 hs hlen
  have h1 := h.kept k1 (fun _ _ e => e)
  refine (ref9_drop_hit h1 (by omega) hk).mono ?_
  rintro e w2 ⟨sv1, rfl, h2, k2, f2⟩
  have hbrl := h.row.lt
  have hb2 := (k2.block _ (Array.getElem?_eq_some_iff.1 hb1).1 (by omega)).trans hb1
  have k12 : Kept (Rfp br (.slice (some ⟨g, 0, none⟩) (l1 ++ p :: l2).length c)) w w2 := (k1.mono (fun _ _ e => e.elim)).trans k2 (fun _ _ e => .inl e)
  obtain ⟨bx, hbx⟩ : ∃ bx, bx = w.heap.size := ⟨_, rfl⟩
  rw [← hbx] at hb2 ⊢
  have hbxc : w2.cell? ⟨bx, 0, none⟩ = some (.string p.1) := by simp only [World.cell?, hb2]; rfl
  have hbxd : w2.cell? ⟨bx, 1, none⟩ = some (.int .i64 p.2) := by simp only [World.cell?, hb2]; rfl
  have hbxn : bx ≠ br := by omega
  have hb2lt := (Array.getElem?_eq_some_iff.1 hb2).1
  have HBX := Lib.hid hbx
  clear hbx
  obtain ⟨j, hj⟩ : ∃ j, j = (l1 ++ l2).length := ⟨_, rfl⟩
  have hj9 : j ≤ 999 := by simp at hl hj; omega
  obtain ⟨a, c2, rfl, -, -, -⟩ := own_form h2.own
  rw [← hj] at h2 f2
  have hs2 := h2.sl
  have ka : Kept (fun _ => False) w2 (w2.alloc (.cells #[.string p.1, .int .i64 p.2] 58)).drew := (Kept.one_alloc w2 _).drew
  have hs3 : (w2.alloc (.cells #[.string p.1, .int .i64 p.2] 58)).drew.cell? ⟨br, 1, none⟩ = some (.slice a j c2) := (ka.cell (p := ⟨br, 1, none⟩) h2.row.lt (fun e => e)).trans hs2
  have hown3 := ownsRow_kept h2.own ka (fun _ _ e => e)
  rw [← hj] at hown3
  have hh3 : Holds9 (w2.alloc (.cells #[.string p.1, .int .i64 p.2] 58)).drew (some ⟨w2.heap.size, 0, none⟩) [.string p.1, .int .i64 p.2] := holds_block (w := w2.alloc (.cells #[.string p.1, .int .i64 p.2] 58)) (heap_alloc_new w2 _)
  have hown2 : ∀ b, (Value.slice a j c2).ownBlock = some b → w.heap.size + 1 ≤ b := fun b e => by
    have := f2 b e
    have z1 := (Array.getElem?_eq_some_iff.1 hb1).1
    omega
  have BOX := Lib.hid (show ¬ (Value.slice a j c2).ownBlock = some bx from fun e => by have := hown2 bx e; have := HBX.out; omega)
  have K12 := Lib.hid k12
  have FPN := Lib.hid (show ∀ b, Rfp br (.slice a j c2) b → Rfp br (.slice (some ⟨g, 0, none⟩) (l1 ++ p :: l2).length c) b ∨ w.heap.size ≤ b from fun b h => h.elim (fun e => .inl (.inl e)) (fun e => .inr (by have := hown2 b e; omega)))
  have FPO := Lib.hid (show ∀ b, b < w.heap.size → Rfp br (.slice a j c2) b → Rfp br (.slice (some ⟨g, 0, none⟩) (l1 ++ p :: l2).length c) b from fun b hb h => h.elim (fun e => .inl e) (fun e => by have := hown2 b e; omega))
  have H2 := Lib.hid h2
  have HJ := Lib.hid hj
  have F2 := Lib.hid f2
  clear hown2 k12 h2 hj f2 hb1 hb2 h1 h hn hk k1 k2
  go_wp2_with fail
  go_region_law (
      (refine step_append_mine rfl (.tmp 27) (.tmp 29) pairE rfl rfl hown3 (some ⟨w2.heap.size, 0, none⟩) 1 1 [.string p.1, .int .i64 p.2] rfl rfl hh3 (by simp [Value.oneCell']) (by unfold maxLen; omega) (by omega) ?_
       intro a4 c4 w4 o4 k4 b4
       obtain ⟨HF, hs4, hf4⟩ := Ref9.appended (rs := [p]) H2.out ka (by rw [HJ.out]; simp <;> omega) o4 k4 b4
       have hbx4 : (w4.setCell ⟨br, 1, none⟩ (.slice a4 (j + 1) c4)).cell? ⟨bx, 1, none⟩ = some (.int .i64 p.2) := by
         refine (cell_set_other _ (by omega)).trans ((k4.cell (p := ⟨bx, 1, none⟩) (Nat.lt_of_lt_of_le hb2lt ka.size) (fun e => ?_)).trans ((ka.cell (p := ⟨bx, 1, none⟩) hb2lt (fun e => e)).trans hbxd))
         exact BOX.out e
       have HF := Lib.hid HF
       clear o4 k4 b4))
  all_goals
    go_wp2_with fail
    go_ret2
    exact ⟨rfl, _, HF.out.1, K12.out.trans HF.out.2.1 (fun b hb e => FPO.out b hb e), fun b hb => (HF.out.2.2 b hb).elim (FPN.out b) (fun h => .inr (Nat.le_trans K12.out.size h))⟩

/-- Who goes behind a put of the document's list. -/
def outP (most : Int) (k : ByteArray) (v : Int) (ps : List P9) : Option ByteArray :=
  if ((dropP k ps).length : Int) + 1 ≤ most then none else (dropP k ps ++ [(k, v)]).head?.map (·.1)
/-- What a put makes of the document's list. -/
def putP (most : Int) (k : ByteArray) (v : Int) (ps : List P9) : List P9 :=
  if ((dropP k ps).length : Int) + 1 ≤ most then dropP k ps ++ [(k, v)] else (dropP k ps ++ [(k, v)]).tail
def kvP (o : Option ByteArray) : Value := match o with | none => .string ⟨#[]⟩ | some k => .string k

theorem ref9_put_any {v : Int} (h : Ref9 w br most sv ps) (hl : ps.length ≤ 999) (hn : (ps.map (·.1)).Nodup) :
    Calls Try.prog 28 #[.pointer (some ⟨br, 0, none⟩), .string k, .int .i64 v] w fun e w' => e = .returned (.tuple #[kvP (outP most k v ps), .bool (outP most k v ps).isSome]) ∧ ∃ sv', Ref9 w' br most sv' (putP most k v ps) ∧ Kept (Rfp br sv) w w' ∧ (∀ b, Rfp br sv' b → Rfp br sv b ∨ w.heap.size ≤ b) := by
  by_cases hr : ((dropP k ps).length : Int) + 1 ≤ most
  · have e1 : outP most k v ps = none := if_pos hr
    have e2 : putP most k v ps = dropP k ps ++ [(k, v)] := if_pos hr
    rw [e1, e2]
    refine (ref9_put_room h hl hn hr).mono ?_
    rintro e w' ⟨sv', rfl, h1⟩
    exact ⟨rfl, sv', h1⟩
  · obtain ⟨q, qs, hq⟩ : ∃ q qs, dropP k ps ++ [(k, v)] = q :: qs := by
      cases e : dropP k ps ++ [(k, v)] with
      | nil => simp at e
      | cons q qs => exact ⟨q, qs, rfl⟩
    have e1 : outP most k v ps = some q.1 := by unfold outP; rw [if_neg hr, hq]; rfl
    have e2 : putP most k v ps = qs := by unfold putP; rw [if_neg hr, hq]; rfl
    rw [e1, e2]
    exact ref9_put_full h hl hn (by omega) hq

/-- What a get makes of the document's list, and its answer. -/
def lookP (k : ByteArray) (ps : List P9) : Option P9 := ps.find? fun p => decide (p.1 = k)
def getP (k : ByteArray) (ps : List P9) : List P9 := match lookP k ps with | none => ps | some p => dropP k ps ++ [p]
theorem lookP_split {k : ByteArray} {ps : List P9} (hn : (ps.map (·.1)).Nodup) : (lookP k ps = none ∧ (∀ p ∈ ps, p.1 ≠ k) ∧ dropP k ps = ps) ∨ ∃ l1 p l2, ps = l1 ++ p :: l2 ∧ p.1 = k ∧ (∀ q ∈ l1, q.1 ≠ p.1) ∧ dropP k ps = l1 ++ l2 ∧ lookP k ps = some p := by
  rcases split_pair hn k with ⟨h1, h2⟩ | ⟨l1, p, l2, rfl, rfl, h1, h2⟩
  · exact .inl ⟨by unfold lookP; exact List.find?_eq_none.2 (by simpa using h1), h1, h2⟩
  · refine .inr ⟨l1, p, l2, rfl, rfl, h1, h2, ?_⟩
    unfold lookP
    rw [List.find?_append, List.find?_eq_none.2 (by simpa using h1)]
    simp
theorem ref9_get_any (h : Ref9 w br most sv ps) (hl : ps.length ≤ 999) (hn : (ps.map (·.1)).Nodup) :
    Calls Try.prog 35 #[.pointer (some ⟨br, 0, none⟩), .string k] w fun e w' => e = .returned (.tuple #[.int .i64 (match lookP k ps with | none => 0 | some p => p.2), .bool (lookP k ps).isSome]) ∧ ∃ sv', Ref9 w' br most sv' (getP k ps) ∧ Kept (Rfp br sv) w w' ∧ (∀ b, Rfp br sv' b → Rfp br sv b ∨ w.heap.size ≤ b) := by
  rcases lookP_split (k := k) hn with ⟨h0, h1, h2⟩ | ⟨l1, p, l2, rfl, rfl, h1, h2, h0⟩
  · unfold getP
    rw [h0]
    refine (ref9_get_miss h (by omega) h1).mono ?_
    rintro e w' ⟨rfl, rfl⟩
    exact ⟨rfl, sv, h, .refl _ _, fun _ h => .inl h⟩
  · unfold getP
    rw [h0, h2]
    exact ref9_get_hit h hl h1 hn

theorem ref9_find_any (h : Ref9 w br most sv ps) (hl : ps.length ≤ 999) (hn : (ps.map (·.1)).Nodup) :
    Calls Try.prog 36 #[.pointer (some ⟨br, 0, none⟩), .string k] w fun e w' => (∃ i : Int, e = .returned (.int .i64 i) ∧ ((lookP k ps = none ∧ i = -1) ∨ ∃ l1 p l2, ps = l1 ++ p :: l2 ∧ p.1 = k ∧ lookP k ps = some p ∧ i = l1.length)) ∧ w = w' := by
  rcases lookP_split (k := k) hn with ⟨h0, h1, h2⟩ | ⟨l1, p, l2, rfl, rfl, h1, h2, h0⟩
  · refine (ref9_find_miss h (by omega) h1).mono ?_
    rintro e w' ⟨rfl, rfl⟩
    exact ⟨⟨_, rfl, .inl ⟨h0, rfl⟩⟩, rfl⟩
  · refine (ref9_find_hit h (by omega) h1).mono ?_
    rintro e w' ⟨rfl, rfl⟩
    exact ⟨⟨_, rfl, .inr ⟨l1, p, l2, rfl, rfl, h0, rfl⟩⟩, rfl⟩
end
end Go.Proofs.Yteiilokhkpaoeaa
