/- slices.AppendSeq, slices.Collect: what an iterator tells, in a row. -/
import Derived.Test.YtdkcnigghcbnpaaGreatGenD
import Derived.Test.YtdkcnigghcbnpaaGreatNew
namespace Go.Proofs.YtdkcnigghcbnpaaGreat
set_option linter.unusedVariables false
set_option linter.unusedSimpArgs false
open Go.RowKit Go.MapKept

theorem entS : Elem Tryz.prog 167 41 (.pointer none) 1 8 := ⟨Tryz.underlying167, by kernel_rfl, rfl, by omega⟩

set_option maxRecDepth 100000 in
set_option maxHeartbeats 2000000 in
theorem appendSeq_any {α : Type} {gf : Nat} {lb : Array Value} {Full : List α → Prop} {D : Nat → Prop} {Rd : World → Prop} (ptr1 : α → Nat) (hit : IterG Tryz.prog gf lb (fun x => #[.pointer (some ⟨ptr1 x, 0, none⟩)]) Full D Rd)
    (eg : ∀ args w, (callFunc gf args).run Tryz.prog w = .ok (.enter gf args) w) (W : World) (hRd : Rd W) (hDlt : ∀ b, D b → b < W.heap.size) (hRdk : ∀ W W', Rd W → Kept (fun b => ¬ D b) W W' → Rd W') (N : Nat) (hN : N ≤ 1000000) (hlen : ∀ l, Full l → l.length ≤ N) :
    Calls Tryz.prog 167 #[.slice none 0 0, .func (.func gf) #[] lb] W fun e w' => ∃ sv items, e = .returned sv ∧ Full items ∧ w'.ownsRow 0 41 1 sv items.length (items.map fun x => .pointer (some ⟨ptr1 x, 0, none⟩)) ∧ (∀ b, sv.ownBlock = some b → W.heap.size ≤ b) ∧ Kept (fun _ => False) W w' := by
  refine callsIn_WR (ro := none) (n := 0).1 (callsIn_of_wp_marks Tryz.func167 rfl trivial ?_ rfl)
  simp only [Tryz.ntmps167, List.size_toArray, List.length_cons, List.length_nil, Nat.reduceAdd, Nat.reduceSub, Array.replicate_succ, Array.replicate_zero, List.push_toArray, List.append_toArray, List.nil_append, List.cons_append]
  have hnf := run_eq_nilFunc (P := Tryz.prog) (W.alloc (.cells #[.slice none 0 0] 167)) (.func gf) #[] lb Tryz.underlying124
  have HR := Lib.hid hRd
  have HD := Lib.hid hDlt
  clear hRd hDlt
  gi_wp2_with fail
  obtain ⟨W1, hW1⟩ : ∃ W1, W1 = W.alloc (.cells #[.slice none 0 0] 167) := ⟨_, rfl⟩
  have k1 : Kept (fun _ => False) W W1 := by rw [hW1]; exact Kept.one_alloc W _
  have hsb : Box W1 W.heap.size (.slice none 0 0) := by rw [hW1]; exact Box.new W _ _
  obtain ⟨sb, hsb'⟩ : ∃ sb, W.heap.size = sb := ⟨_, rfl⟩
  rw [← hW1, hsb']
  rw [hsb'] at hsb
  have HSB := Lib.hid hsb'
  have hsl := hsb.lt
  clear hW1 hsb' hnf
  refine wpW_rangeG hit rfl eg (fun _ => by rfl) (fun (pre : List α) U W' => Coll sb 41 1 pre.length (pre.map fun x => .pointer (some ⟨ptr1 x, 0, none⟩)) U W') (fun _ _ _ => False) (fun b => b = sb)
    (fun (pre : List α) U W W' h k => Coll.kept h k) (fun _ _ _ _ h _ => h) ?_ ?_ ?_ (hRdk _ _ HR.out (k1.mono fun _ _ e => e.elim)) hRdk (Coll.start hsb rfl) ?_ ?_ (fun _ _ _ _ h => h.elim)
  · rintro b rfl hd
    have := HD.out _ hd
    have := HSB.out
    omega
  · intro b hd
    exact Nat.lt_of_lt_of_le (HD.out b hd) k1.size
  · rintro b rfl
    exact hsl
  · intro l pre x rest U' W3 hitems hi hkw hlt' hD' hRd' hl hlD hlW hlw hUU
    have HLT := Lib.hid hlt'
    have HU := Lib.hid hUU
    have hpl : pre.length < N := by
      have := hlen _ hitems
      simp at this
      omega
    clear hlt' hD' hRd' hUU hkw hitems hsb
    simp only [List.zip_toArray, List.zip_cons_cons, List.zip_nil_left, List.foldl_toArray', List.foldl_cons, List.foldl_nil, List.setIfInBounds_toArray, List.set_cons_succ, List.set_cons_zero]
    gi_wp2_with (rw [Oper.semAt_eq _ _ _ (fun c h => by cases h)]; go_simp; try go_bits)
    refine ⟨trivial, ?_⟩
    intro W4 kl zl
    have ZL := Lib.hid zl
    clear zl
    have hi2 := hi.kept (kl.mono fun b _ e h => by subst e; exact hl h)
    obtain ⟨o, ho, hrow, hoo, hU⟩ := hi2
    have hco := ho.cell
    have hfo := ho.frozen
    have hrow2 := ownsRow_kept hrow (Kept.one_alloc W4 (.cells #[.pointer (some ⟨ptr1 x, 0, none⟩)] 41)) (fun _ _ e => e)
    clear hi
    gi_wp2_with (first
      | (gi_at_builtin; refine wpListW_append_mine rfl _ _ entS rfl rfl hrow2 (some ⟨W4.heap.size, 0, none⟩) 1 1 [.pointer (some ⟨ptr1 x, 0, none⟩)] rfl rfl (holds_block (heap_alloc_new W4 _)) (by simp [Value.oneCell']) (by unfold maxLen; omega) (by omega) ?_
         intro a' c' w' h2 h3 h4
         have bo4 := (ho.alloc (.cells #[.pointer (some ⟨ptr1 x, 0, none⟩)] 41)).kept h3 (fun e => (hoo _ e).2 rfl)
         have hco4 := bo4.cell
         have hfo4 := bo4.frozen
         go_frame)
      | (rw [Oper.semAt_eq _ _ _ (fun c h => by cases h)]; go_simp; try go_bits))
    obtain ⟨e1, e2, e3, e4, e5, -⟩ := coll_round kl hl HLT.out hlW ho hrow hoo hU (Kept.one_alloc W4 (.cells #[.pointer (some ⟨ptr1 x, 0, none⟩)] 41)) h2 h3 h4
    exact ⟨e1, _, e2, e3, e4, by simpa using e5⟩
  · intro items dk U3 W3 hfull hi hkw hRd' hdk hdkn hdkU hUU hUn hUlt
    obtain ⟨o, ho, hrow, hoo, hU⟩ := hi
    have hco := ho.cell
    have H := Lib.hid (And.intro hfull (And.intro hrow (And.intro hkw (And.intro hdk (And.intro hdkU hUn)))))
    have HO := Lib.hid hoo
    have hdn : W1.heap.size ≤ dk := hdkn
    clear hsb hfull hrow hkw hdk hdkU hUn hoo hUU hUlt hRd' hdkn
    gi_wp2_with fail
    obtain ⟨hfull, hrow, hkw, hdk, hdkU, hUn⟩ := H.out
    refine leaves_marks [dk] _ (by simp) (fun d hd => by rw [List.mem_singleton.1 hd]; exact hdk) (fun W' kd => ?_)
    have hs1 := k1.size
    have hbn : ∀ b, U3 b → W.heap.size ≤ b := fun b hb => by
      have := HSB.out
      rcases hUn b hb with rfl | h <;> omega
    refine ⟨_, results_tmp rfl _ _ _, o, items, rfl, hfull, ownsRow_kept hrow kd (fun b e hd => hdkU (by rw [← List.mem_singleton.1 hd]; exact (HO.out b e).1)), fun b e => hbn b (HO.out b e).1, ?_⟩
    refine Kept.none (((k1.mono (S' := fun b => W.heap.size ≤ b) (fun _ _ e => e.elim)).trans hkw (fun b _ e => ?_)).trans kd (fun b _ e => ?_))
    · have := HSB.out
      rw [e]
      omega
    · rw [List.mem_singleton.1 e]
      omega

set_option maxRecDepth 100000 in
theorem collect_any {α : Type} {gf : Nat} {lb : Array Value} {Full : List α → Prop} {D : Nat → Prop} {Rd : World → Prop} (ptr1 : α → Nat) (hit : IterG Tryz.prog gf lb (fun x => #[.pointer (some ⟨ptr1 x, 0, none⟩)]) Full D Rd)
    (eg : ∀ args w, (callFunc gf args).run Tryz.prog w = .ok (.enter gf args) w) (W : World) (hRd : Rd W) (hDlt : ∀ b, D b → b < W.heap.size) (hRdk : ∀ W W', Rd W → Kept (fun b => ¬ D b) W W' → Rd W') (N : Nat) (hN : N ≤ 1000000) (hlen : ∀ l, Full l → l.length ≤ N) :
    Calls Tryz.prog 164 #[.func (.func gf) #[] lb] W fun e w' => ∃ sv items, e = .returned sv ∧ Full items ∧ w'.ownsRow 0 41 1 sv items.length (items.map fun x => .pointer (some ⟨ptr1 x, 0, none⟩)) ∧ (∀ b, sv.ownBlock = some b → W.heap.size ≤ b) ∧ Kept (fun _ => False) W w' := by
  have H := Lib.hid (appendSeq_any ptr1 hit eg W hRd hDlt hRdk N hN hlen)
  clear hit hRd hDlt hRdk hlen
  go_enter Tryz.func164, Tryz.ntmps164
  go_wp2_with fail
  refine H.out.mono ?_
  rintro e w1 ⟨sv, items, rfl, h1, h2, h3, h4⟩
  have HH := Lib.hid (And.intro h1 (And.intro h2 (And.intro h3 h4)))
  clear h1 h2 h3 h4
  go_wp2_with fail
  go_ret
  exact ⟨sv, items, rfl, HH.out⟩
end Go.Proofs.YtdkcnigghcbnpaaGreat
