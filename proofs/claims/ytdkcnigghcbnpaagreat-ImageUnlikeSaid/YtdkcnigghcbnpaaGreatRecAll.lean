/- all of a list's table: the entries, the one that was used longest ago first. -/
import Derived.Test.YtdkcnigghcbnpaaGreatLruAllSEG
import Derived.Test.YtdkcnigghcbnpaaGreatTblA
namespace Go.Proofs.YtdkcnigghcbnpaaGreat
set_option linter.unusedVariables false
set_option linter.unusedSimpArgs false
open Go.RowKit Go.MapKept

set_option maxRecDepth 100000 in
set_option maxHeartbeats 1000000 in
theorem rec_all1 (bx bl bm : Nat) (most : Int) (xs : List (Ent ByteArray Nat)) :
    IterG Tryz.prog 189 #[.pointer (some ⟨bx, 0, none⟩)] (fun x : Ent ByteArray Nat => #[vSE x.v]) (fun l => l = xs) (fun b => b = bx ∨ Lfp bl bm xs b) (SE.Rd bx bl bm most xs) := by
  intro l J Jx U W hJ hJx hY h0 hD hlt hR
  have hbx : W.cell? ⟨bx, 0, none⟩ = some (.pointer (some ⟨bl, 0, none⟩)) := hR.1
  refine callsIn_of_wp_marks Tryz.func189 rfl trivial ?_ rfl
  simp only [Tryz.ntmps189, List.size_toArray, List.length_cons, List.length_nil, Nat.reduceAdd, Nat.reduceSub, Array.replicate_succ, Array.replicate_zero, List.push_toArray, List.append_toArray, List.nil_append, List.cons_append]
  have HR := Lib.hid hR
  have HD := Lib.hid hD
  have HLT := Lib.hid hlt
  have H0 := Lib.hid h0
  have d0 := ((Kept.one_alloc W (.cells #[.func (.yield l) #[] #[]] 246)).cell (p := ⟨bx, 0, none⟩) hR.2.1 (fun e => e)).trans hbx
  clear hR hD hlt h0
  gi_wp2_with fail
  obtain ⟨W1, hW1⟩ : ∃ W1, W1 = W.alloc (.cells #[.func (.yield l) #[] #[]] 246) := ⟨_, rfl⟩
  have k1 : Kept (fun _ => False) W W1 := by rw [hW1]; exact Kept.one_alloc W _
  have hyb : Box W1 W.heap.size (.func (.yield l) #[] #[]) := by rw [hW1]; exact Box.new W _ _
  obtain ⟨yb, hyb'⟩ : ∃ yb, W.heap.size = yb := ⟨_, rfl⟩
  rw [← hW1] at d0
  rw [← hW1, hyb']
  rw [hyb'] at hyb
  have HYB := Lib.hid hyb'
  clear hW1 hyb'
  refine callsIn_WR.2 ((SE.all_own bl W1).mono ?_)
  rintro e W2 ⟨bx2, rfl, hbx2, k2, g2⟩
  have hnf := run_eq_nilFunc (P := Tryz.prog) W2 (.func 197) #[] #[.pointer (some ⟨bx2, 0, none⟩)] Tryz.underlying265
  have hyb2 := hyb.kept k2 (fun e => e)
  have hR2 := HR.out.twin (Twin.refl W)
  have k02 := k1.trans k2 (fun _ _ e => e)
  have hRd2 : SE.Rd bx2 bl bm most xs W2 := ⟨hbx2.cell, hbx2.lt, (HR.out.kept k02 (fun e => e) (fun _ _ e => e)).2.2⟩
  have hsz := k1.size
  have hyl := hyb2.lt
  have hylt := hyb.lt
  clear hyb d0
  gi_wp2_with fail
  refine wpW_pass (fn := Tryz.f189) (OFull := fun l => l = xs) (oencs := fun x : Ent ByteArray Nat => #[vSE x.v]) (SE.all1G bx2 bl bm most xs) (by rfl) SE.enters (fun _ => by rfl) (by rfl) (fun x => some x) hJ hJx hY (fun ys e => by rw [e]; simp) (hJ _ _ _ _ H0.out (k02.mono fun _ _ e => e.elim)) (k02.mono fun _ _ e => e.elim) HLT.out HD.out ?_ HR.out ?_ (fun b => b = yb) ?_ (fun W => Box W yb (.func (.yield l) #[] #[])) hyb2 ?_ ?_ hRd2 ?_ (fun _ _ h => h) (fun _ _ h => h) ?_
  · rintro b (rfl | h)
    · exact HR.out.2.1
    · exact HR.out.2.2.lt b h
  · exact fun W W' h k => h.kept k (fun e => e (.inl rfl)) (fun b hb e => e (.inr hb))
  · rintro b rfl
    exact ⟨by have := HYB.out; omega, hyl⟩
  · exact fun W W' h k => h.kept k (fun e => e rfl)
  · rintro b (rfl | h)
    · exact ⟨hbx2.lt, fun hu => by have := HLT.out _ hu; omega, fun e => by omega⟩
    · have hb := HR.out.2.2.lt b h
      exact ⟨by have := k02.size; omega, fun hu => HD.out _ hu (.inr h), fun e => by have := HYB.out; omega⟩
  · exact fun W W' h k => h.kept k (fun e => e (.inl rfl)) (fun b hb e => e (.inr hb))
  · intro l' pre x rest U' W3 hitems hl' hU' hnl
    clear hyb2 hRd2 hbx2
    simp only [List.zip_toArray, List.zip_cons_cons, List.zip_nil_left, List.foldl_toArray', List.foldl_cons, List.foldl_nil, List.setIfInBounds_toArray, List.set_cons_succ, List.set_cons_zero]
    gi_wp2_with (rw [Oper.semAt_eq _ _ _ (fun c h => by cases h)]; go_simp; try go_bits)
    refine ⟨trivial, ?_⟩
    intro W4 hxr hrd hord hz hj hy
    have hcy := hxr.cell
    obtain ⟨fn, tmps, assign, body, hyy, hRR⟩ := hy x rfl W4 (.refl _ _) rfl
    gi_wp2_with (rw [Oper.semAt_eq _ _ _ (fun c h => by cases h)]; go_simp; try go_bits)
    refine (roundIn_any hRR).mono ?_
    rintro e W5 ⟨U5, g5, (⟨rfl, hj5⟩ | ⟨rfl, hj5⟩)⟩
    all_goals
      have H5 := Lib.hid (And.intro g5 hj5)
      clear hyy hRR g5 hj5 hy
      gi_wp2_with (rw [Oper.semAt_eq _ _ _ (fun c h => by cases h)]; go_simp; try go_bits)
    · exact ⟨U5, H5.out.1, by simpa using H5.out.2⟩
    · exact ⟨U5, H5.out.1, H5.out.2⟩

set_option maxRecDepth 100000 in
/-- all of a list's table hands back that iterator. -/
theorem rec_all_any (p : Value) (w : World) :
    Calls Tryz.prog 183 #[.agg #[p]] w fun e w' => ∃ bx, e = .returned (.func (.func 189) #[] #[.pointer (some ⟨bx, 0, none⟩)]) ∧ Box w' bx p ∧ Kept (fun _ => False) w w' ∧ w.heap.size ≤ bx := by
  refine Calls.mono (R := fun e w' => e = .returned (.func (.func 189) #[] #[.pointer (some ⟨w.heap.size, 0, none⟩)]) ∧ w' = w.alloc (.cells #[p] 166)) ?_ ?_
  · go_enter Tryz.func183, Tryz.ntmps183
    go_wp2_with fail
    go_ret
    exact ⟨rfl, rfl⟩
  · rintro e w' ⟨rfl, rfl⟩
    exact ⟨_, rfl, Box.new w _ _, Kept.one_alloc w _, Nat.le_refl _⟩
theorem rec_enters (args : Array Value) (w : World) : (callFunc 189 args).run Tryz.prog w = .ok (.enter 189 args) w := by
  exact enters_body Tryz.func189 (by kernel_rfl) rfl args w
end Go.Proofs.YtdkcnigghcbnpaaGreat
