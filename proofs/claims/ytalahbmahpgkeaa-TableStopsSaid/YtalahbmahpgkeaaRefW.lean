/- The document's table: the entries but one. -/
import Derived.Test.YtalahbmahpgkeaaRefT
namespace Go.Proofs.Ytalahbmahpgkeaa
set_option linter.unusedVariables false
set_option linter.unusedSimpArgs false
open Go.RowKit Go.MapKept

section
variable {w : World} {bt : Nat} {m : TM} {lv : Value}
theorem rown_empty (w : World) (e size : Nat) : (w.alloc (.cells #[] e)).ownsRow 0 e size (.slice (some ⟨w.heap.size, 0, none⟩) 0 0) 0 [] :=
  ⟨by simp, .inr ⟨w.heap.size, 0, #[], rfl, Nat.zero_le _, heap_alloc_new w _, Nat.le_refl _, by unfold maxLen; omega, by simp, by simp⟩⟩
theorem rholds_nil {w : World} {a : Option Addr} {ys : List Value} (h : ys.length = 0) : Holds9 w a ys := by
  intro j u hj
  have := (List.getElem?_eq_some_iff.1 hj).1
  omega
theorem rholds_part {w : World} {base e size n g c : Nat} {xs : List Value} (h : w.ownsRow base e size (.slice (some ⟨g, 0, none⟩) n c) n xs) (o : Nat) (ys : List Value) (hy : ∀ j u, ys[j]? = some u → xs[o + j]? = some u) : Holds9 w (some ⟨g, o, none⟩) ys := by
  intro j u hj
  refine ⟨_, rfl, ?_⟩
  rw [add_off]
  exact own_cell h (hy j u hj)

set_option maxRecDepth 100000 in
set_option maxHeartbeats 1000000 in
theorem rt_without_raw {l1 l2 : List En} {x : En} (hs : w.cell? ⟨bt, 5, none⟩ = some lv) (hrow : RowAt w bt 6) (hown : w.ownsRow 0 59 1 lv (l1 ++ x :: l2).length (ptrs (l1 ++ x :: l2))) (hne' : lv.ownBlock ≠ some bt) (hl : (l1 ++ x :: l2).length ≤ 2000) :
    Calls Try.prog 41 #[.pointer (some ⟨bt, 0, none⟩), .int .i64 (l1.length : Nat)] w fun e w' => ∃ r, e = .returned r ∧ w'.ownsRow 0 59 1 r (l1 ++ l2).length (ptrs (l1 ++ l2)) ∧ Kept (fun _ => False) w w' ∧ (∀ b, r.ownBlock = some b → w.heap.size ≤ b) := by
  obtain ⟨a, c, rfl, hg, -, hnc⟩ := own_form hown
  have hbr := hrow.lt
  have hlen : (l1 ++ x :: l2).length = l1.length + 1 + l2.length := by simp <;> omega
  obtain ⟨g, rfl⟩ := hg (by omega)
  have hne : g ≠ bt := fun e => hne' (by simp [Value.ownBlock, e])
  rw [hlen] at hs hown hnc hl
  have hf1 := ptrs_len l1
  have hf2 := ptrs_len l2
  obtain ⟨i, hi⟩ : ∃ i, i = l1.length := ⟨_, rfl⟩
  obtain ⟨n, hm⟩ : ∃ n, n = l2.length := ⟨_, rfl⟩
  rw [← hi, ← hm] at hs hown hnc hl
  rw [← hi] at hf1 ⊢
  rw [← hm] at hf2
  have hlen3 : (l1 ++ l2).length = i + n := by simp <;> omega
  have HL3 := Lib.hid hlen3
  have hglt := (hown.lt g rfl).2
  have hown0 : (w.alloc (.cells #[] 59)).drew.ownsRow 0 59 1 (.slice (some ⟨w.heap.size, 0, none⟩) 0 0) 0 [] := rown_empty w 59 1
  have hs1 : (w.alloc (.cells #[] 59)).drew.cell? ⟨bt, 5, none⟩ = some (.slice (some ⟨g, 0, none⟩) (i + 1 + n) c) := ((Kept.one_alloc w _).cell (p := ⟨bt, 5, none⟩) hbr (fun e => e)).trans hs
  have hh1 : ∀ w', Kept (fun b => b ≠ g) w w' → Holds9 w' (some ⟨g, 0, none⟩) (ptrs l1) ∧ Holds9 w' (some ⟨g, i + 1, none⟩) (ptrs l2) := by
    intro w' k
    have := ownsRow_kept hown k (fun b e => by simp [Value.ownBlock] at e; omega)
    refine ⟨rholds_part this 0 _ ?_, rholds_part this (i + 1) _ ?_⟩
    · intro j u hj
      rw [ptrs_append, Nat.zero_add, List.getElem?_append_left (List.getElem?_eq_some_iff.1 hj).1]
      exact hj
    · intro j u hj
      rw [ptrs_append, List.getElem?_append_right (by omega), hf1, show i + 1 + j - i = j + 1 by omega]
      exact hj
  have HK := Lib.hid hh1
  have ci : i ≤ c := by omega
  have hwr : IntKind.i64.wrap ((i : Int) + 1) = (i : Int) + 1 := IntWalk.i64_in _ (by omega)
  have hp1 : (0 : Int) ≤ (i : Int) + 1 := by omega
  have hp3 : (i : Int) ≤ (i : Int) + 1 := by omega
  have hp2 : (i : Int) + 1 ≤ (i : Int) + 1 + (n : Int) := by omega
  have htn : ((i : Int) + 1).toNat = i + 1 := by omega
  have hsub : i + 1 + n - (i + 1) = n := by omega
  have k01 : Kept (fun _ => False) w (w.alloc (.cells #[] 59)).drew := (Kept.one_alloc w _).drew
  have hn1 := (hh1 _ (k01.mono (fun _ _ e => e.elim))).1
  have hf1' : (ptrs l1).length = i * 1 := by omega
  have hf2' : (ptrs l2).length = n * 1 := by omega
  clear hh1 hi hm hg hown hlen hlen3 hf1 hf2 hrow hne'
  go_enter Try.func41, Try.ntmps41
  have hcs : i + 1 = c ∨ ¬ (c = i + 1) := by omega
  rcases hcs with hcap | hcap
  case' inl =>
    obtain rfl : c = i + 1 := by omega
    obtain rfl : n = 0 := by omega
    rw [Nat.add_zero] at hs hs1 hsub hnc hl
    clear hcap
  all_goals
    go_wp2_with fail
    go_region_law (first
      | (refine step_append_mine rfl (.tmp 5) (.tmp 11) rentE rfl rfl hown0 (some ⟨g, 0, none⟩) i _ (ptrs l1) rfl hf1' hn1 (ptrs_one l1) (by unfold maxLen; omega) (by omega) ?_
         intro a1 c1 w2 o2 k2 b2
         rw [Nat.zero_add] at o2
         have b2' := b2
         clear b2
         have hs2 := (k2.cell (p := ⟨bt, 5, none⟩) (Nat.lt_of_lt_of_le hbr k01.size) (fun e => by have e : some w.heap.size = some bt := e; have := Option.some.inj e; omega)).trans hs1
         have hn2 := (HK.out _ ((k01.mono (S' := fun b => b ≠ g) (fun _ _ e => e.elim)).trans k2 (fun b hb e => by have e : some w.heap.size = some b := e; have := Option.some.inj e; omega))).2
         have hn2' : Holds9 w2 (some ⟨g, i + 1, none⟩) (ptrs l2) ∧ ((ptrs l2).length = 0 → Holds9 w2 (some ⟨g, 0, none⟩) (ptrs l2)) := ⟨hn2, fun h => rholds_nil h⟩
         clear hn2)
      | (refine step_append_mine rfl (.tmp 12) (.tmp 19) rentE rfl rfl o2 (some ⟨g, _, none⟩) _ _ (ptrs l2) rfl hf2' (by first | exact hn2'.1 | exact hn2'.2 (by omega)) (ptrs_one l2) (by unfold maxLen; omega) (by omega) ?_
         intro a3 c3 w3 o3 k3 b3
         have hb1 : ∀ b, (Value.slice a1 i c1).ownBlock = some b → w.heap.size ≤ b := by
           intro b e
           have z1 : (w.alloc (.cells #[] 59)).drew.heap.size = w.heap.size + 1 := by simp
           rw [Nat.zero_add] at b2'
           rcases b2' with h | h
           · have : some w.heap.size = some b := h.symm.trans e
             exact Nat.le_of_eq (Option.some.inj this)
           · have := Option.some.inj (h.symm.trans e)
             omega
         have k12 : Kept (fun _ => False) w w2 := k01.trans k2 (fun b hb e => by have e : some w.heap.size = some b := e; have := Option.some.inj e; omega)
         have k13 : Kept (fun _ => False) w w3 := k12.trans k3 (fun b hb e => by have := hb1 b e; omega)
         have FIN := Lib.hid (And.intro o3 (And.intro k13 (And.intro b3 (And.intro hb1 k12))))
         clear k12 k13 hb1 o3 b3))
    all_goals
      go_wp2_with fail
      go_ret
      obtain ⟨o3, k13, b3, hb1, k12⟩ := FIN.out
      refine ⟨_, rfl, ?_, k13, fun b e => ?_⟩
      · have hL := HL3.out
        simp only [List.length_append, Nat.add_zero] at hL ⊢
        rw [hL, ptrs_append]
        exact o3
      · rcases b3 with h | h
        · exact hb1 b (h.symm.trans e)
        · have := Option.some.inj (h.symm.trans e)
          have := k12.size
          omega
theorem rt_without {l1 l2 : List En} {x : En} (h : RT w bt m lv (l1 ++ x :: l2)) :
    Calls Try.prog 41 #[.pointer (some ⟨bt, 0, none⟩), .int .i64 (l1.length : Nat)] w fun e w' => ∃ r, e = .returned r ∧ w'.ownsRow 0 59 1 r (l1 ++ l2).length (ptrs (l1 ++ l2)) ∧ Kept (fun _ => False) w w' ∧ (∀ b, r.ownBlock = some b → w.heap.size ≤ b) :=
  rt_without_raw h.c5 h.row h.own h.ne (by have := h.mx; omega)
end
end Go.Proofs.Ytalahbmahpgkeaa
