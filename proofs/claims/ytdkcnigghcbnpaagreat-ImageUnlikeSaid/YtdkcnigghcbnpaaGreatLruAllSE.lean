/- lru.List[string,*swingbridge/table.Entry].All, ranged over: each entry, the one that was used longest ago first. -/
import Derived.Test.YtdkcnigghcbnpaaGreatLruSE
import Derived.Test.YtdkcnigghcbnpaaGreatLruAllBase
namespace Go.Proofs.YtdkcnigghcbnpaaGreat
set_option linter.unusedVariables false
set_option linter.unusedSimpArgs false
open Go.RowKit Go.MapKept

/-- What an iterator over a list reads. -/
def SE.Rd (bx bl bm : Nat) (most : Int) (xs : List (Ent ByteArray Nat)) (W : World) : Prop := W.cell? ⟨bx, 0, none⟩ = some (ptr (bl, 0)) ∧ bx < W.heap.size ∧ SE.L W bl bm most xs
theorem SE.Rd.kept {bx bl bm : Nat} {most : Int} {xs : List (Ent ByteArray Nat)} {S : Nat → Prop} {W W' : World} (h : SE.Rd bx bl bm most xs W) (k : Kept S W W') (h1 : ¬ S bx) (h2 : ∀ b, Lfp bl bm xs b → ¬ S b) : SE.Rd bx bl bm most xs W' :=
  ⟨(k.cell h.2.1 h1).trans h.1, Nat.lt_of_lt_of_le h.2.1 k.size, h.2.2.kept k h2⟩

theorem SE.Rd.twin {bx bl bm : Nat} {most : Int} {xs : List (Ent ByteArray Nat)} {W W' : World} (h : SE.Rd bx bl bm most xs W) (t : Twin W' W) : SE.Rd bx bl bm most xs W' := by
  have hl := h.2.2.twin t
  obtain ⟨n, rfl⟩ := t.eq
  exact ⟨h.1, h.2.1, hl⟩

set_option maxRecDepth 100000 in
set_option maxHeartbeats 1000000 in
theorem SE.all1 (bx bl bm : Nat) (most : Int) (xs : List (Ent ByteArray Nat)) :
    IterC Tryz.prog 197 #[.pointer (some ⟨bx, 0, none⟩)] (fun x : Ent ByteArray Nat => #[.string x.k, vSE x.v]) xs (fun b => b = bx ∨ Lfp bl bm xs b) (SE.Rd bx bl bm most xs) := by
  intro l J Jx U W hJ hJx hY h0 hD hlt hR
  have hbx := hR.1
  have hn := hR.2.2.first
  simp only [nx, Nat.reduceAdd] at hn
  unfold ptr at hbx hn
  refine callsIn_of_wp Tryz.func197 rfl trivial ?_ rfl
  simp only [Tryz.ntmps197, List.size_toArray, List.length_cons, List.length_nil, Nat.reduceAdd, Nat.reduceSub, Array.replicate_succ, Array.replicate_zero, List.push_toArray, List.append_toArray, List.nil_append, List.cons_append]
  gi_wp2
  gi_loopw [3] (fun p wr => ∃ (pre rest : List (Ent ByteArray Nat)) (U' : Nat → Prop), p = ptr (behind (bl, 1) (spots rest)) ∧ xs = pre ++ rest ∧ J pre U' wr ∧ Grow U U' W wr ∧ SE.Rd bx bl bm most xs wr ∧ (∀ b, U' b → ¬ (b = bx ∨ Lfp bl bm xs b))) (fun p _ => leftE bl xs p)
  case atStart => exact ⟨[], xs, U, rfl, rfl, h0, Grow.refl hlt, hR, hD⟩
  case round =>
    obtain ⟨pre, rest, U', rfl, hxs, hj, gr, hR', hD'⟩ := hrel
    have HXS := Lib.hid hxs
    clear hxs hn hbx
    cases rest with
    | nil =>
      have hb : behind (bl, 1) (spots ([] : List (Ent ByteArray Nat))) = (bl, 1) := rfl
      rw [hb]
      unfold ptr
      gi_wp2
      refine wpW_region_still (by kernel_rfl) (by kernel_rfl) ?_
      obtain ⟨w2, hw2, t2⟩ : ∃ w2, w2 = ({ wr with drawn := wr.drawn + 1 } : World) ∧ Twin w2 wr := ⟨_, rfl, rfl, rfl, rfl, rfl⟩
      rw [← hw2]
      have gr2 : Grow U U' W w2 := ⟨gr.kept.twin t2, gr.sub, gr.new, fun b hb => by rw [t2.heap]; exact gr.lt b hb⟩
      have hj2 : J pre U' w2 := hJ _ _ _ _ hj ((Kept.refl _ wr).twin t2)
      have hR2 : SE.Rd bx bl bm most xs w2 := hR'.twin t2
      clear hw2 t2 hj gr hb hR'
      have hbx := hR2.1
      unfold ptr at hbx
      have hne := run_neq_ptr_same (P := Tryz.prog) w2 (tp := 194) ⟨bl, 1, none⟩ Tryz.underlying194 (n := 4) (by kernel_rfl)
      with_reducible refine wpStill_want (by kernel_rfl) (fun K hK => ?_); go_simp; with_reducible refine hK _ ?_; clear hK K
      with_reducible refine wpStill_want (by kernel_rfl) (fun K hK => ?_); go_simp; with_reducible refine hK _ ?_; clear hK K
      with_reducible refine wpStill_want (by kernel_rfl) (fun K hK => ?_); go_simp; with_reducible refine hK _ ?_; clear hK K
      with_reducible refine wpStill_want (by kernel_rfl) (fun K hK => ?_); go_simp; with_reducible refine hK _ ?_; clear hK K
      with_reducible refine wpStill_want (by kernel_rfl) (fun K hK => ?_); go_simp; with_reducible refine hK _ ?_; clear hK K
      with_reducible refine wpStill_want (by kernel_rfl) (fun K hK => ?_); go_simp; with_reducible refine hK _ ?_; clear hK K
      with_reducible refine wpStill_pass (by kernel_rfl) (fun K hK => ?_); go_simp; with_reducible refine hK _ ?_; clear hK K
      with_reducible refine wpStill_pass (by kernel_rfl) (fun K hK => ?_); go_simp; with_reducible refine hK _ ?_; clear hK K
      with_reducible refine wpStill_pass (by kernel_rfl) (fun K hK => ?_); go_simp; with_reducible refine hK _ ?_; clear hK K
      with_reducible refine wpStill_pass (by kernel_rfl) (fun K hK => ?_); go_simp; with_reducible refine hK _ ?_; clear hK K
      with_reducible refine wpStill_pass (by kernel_rfl) (fun K hK => ?_); go_simp; with_reducible refine hK _ ?_; clear hK K
      with_reducible refine wpStill_pass (by kernel_rfl) (fun K hK => ?_); go_simp; with_reducible refine hK _ ?_; clear hK K
      with_reducible refine wpStill_pass (by kernel_rfl) (fun K hK => ?_); go_simp; with_reducible refine hK _ ?_; clear hK K
      with_reducible refine wpStill_pass (by kernel_rfl) (fun K hK => ?_); go_simp; with_reducible refine hK _ ?_; clear hK K
      with_reducible refine wpStill_pass (by kernel_rfl) (fun K hK => ?_); go_simp; with_reducible refine hK _ ?_; clear hK K
      with_reducible refine wpStill_pass (by kernel_rfl) (fun K hK => ?_); go_simp; with_reducible refine hK _ ?_; clear hK K
      with_reducible refine wpStill_want (by kernel_rfl) (fun K hK => ?_); go_simp; with_reducible refine hK _ ?_; clear hK K
      refine wpStill_nil ?_
      gi_wp2
      go_end0
      exact ⟨⟨_, rfl⟩, U', gr2, .inl (by rw [HXS.out]; simpa using hj2)⟩
    | cons x rest =>
      have hb : behind (bl, 1) (spots (x :: rest)) = (x.b, 0) := rfl
      rw [hb]
      obtain ⟨w2, hw2, t2⟩ : ∃ w2, w2 = ({ wr with drawn := wr.drawn + 1 } : World) ∧ Twin w2 wr := ⟨_, rfl, rfl, rfl, rfl, rfl⟩
      have gr2 : Grow U U' W w2 := ⟨gr.kept.twin t2, gr.sub, gr.new, fun b hb => by rw [t2.heap]; exact gr.lt b hb⟩
      have hj2 : J pre U' w2 := hJ _ _ _ _ hj ((Kept.refl _ wr).twin t2)
      have hR2 : SE.Rd bx bl bm most xs w2 := hR'.twin t2
      have hx : x ∈ xs := by rw [HXS.out]; simp
      have hbx := hR2.1
      have hk := hR2.2.2.key x hx
      have hv := hR2.2.2.val x hx
      have hne := run_neq_ptr_other (P := Tryz.prog) w2 (tp := 194) (a := ⟨x.b, 0, none⟩) (b := ⟨bl, 1, none⟩) (n := 3) Tryz.underlying194 (by kernel_rfl) (by intro e; injection e with e1 e2; cases e2) (hR2.2.2.row x hx) hR2.2.2.head
      obtain ⟨fn, tmps, assign, body, hy, hR⟩ := hY pre x rest U' w2 HXS.out hj2 hD' gr2.lt hR2
      simp only [strK] at hk
      unfold ptr at hbx ⊢
      clear t2 hj gr hb hR' hx
      gi_wp2
      refine wpW_region_tail 15 (by kernel_rfl) (by kernel_rfl) ?_
      rw [← hw2]
      clear hw2
      simp only [List.take_succ_cons, List.take_zero, List.drop_succ_cons, List.drop_zero]
      with_reducible refine wpStill_want (by kernel_rfl) (fun K hK => ?_); go_simp; with_reducible refine hK _ ?_; clear hK K
      with_reducible refine wpStill_want (by kernel_rfl) (fun K hK => ?_); go_simp; with_reducible refine hK _ ?_; clear hK K
      with_reducible refine wpStill_want (by kernel_rfl) (fun K hK => ?_); go_simp; with_reducible refine hK _ ?_; clear hK K
      with_reducible refine wpStill_want (by kernel_rfl) (fun K hK => ?_); go_simp; with_reducible refine hK _ ?_; clear hK K
      with_reducible refine wpStill_want (by kernel_rfl) (fun K hK => ?_); go_simp; with_reducible refine hK _ ?_; clear hK K
      with_reducible refine wpStill_want (by kernel_rfl) (fun K hK => ?_); go_simp; with_reducible refine hK _ ?_; clear hK K
      with_reducible refine wpStill_want (by kernel_rfl) (fun K hK => ?_); go_simp; with_reducible refine hK _ ?_; clear hK K
      with_reducible refine wpStill_want (by kernel_rfl) (fun K hK => ?_); go_simp; with_reducible refine hK _ ?_; clear hK K
      with_reducible refine wpStill_want (by kernel_rfl) (fun K hK => ?_); go_simp; with_reducible refine hK _ ?_; clear hK K
      with_reducible refine wpStill_want (by kernel_rfl) (fun K hK => ?_); go_simp; with_reducible refine hK _ ?_; clear hK K
      with_reducible refine wpStill_want (by kernel_rfl) (fun K hK => ?_); go_simp; with_reducible refine hK _ ?_; clear hK K
      with_reducible refine wpStill_want (by kernel_rfl) (fun K hK => ?_); go_simp; with_reducible refine hK _ ?_; clear hK K
      with_reducible refine wpStill_want (by kernel_rfl) (fun K hK => ?_); go_simp; with_reducible refine hK _ ?_; clear hK K
      with_reducible refine wpStill_want (by kernel_rfl) (fun K hK => ?_); go_simp; with_reducible refine hK _ ?_; clear hK K
      with_reducible refine wpStill_want (by kernel_rfl) (fun K hK => ?_); go_simp; with_reducible refine hK _ ?_; clear hK K
      refine wpStill_nil ?_
      gi_wp2
      refine hR.mono ?_
      rintro e W3 ⟨U3, g3, (⟨rfl, hj3⟩ | ⟨rfl, hjx3⟩)⟩
      · have gr3 := gr2.trans g3
        have hR3 : SE.Rd bx bl bm most xs W3 := hR2.kept g3.kept (fun h => hD' _ h (.inl rfl)) (fun b hb h => hD' b h (.inr hb))
        have hD3 : ∀ b, U3 b → ¬ (b = bx ∨ Lfp bl bm xs b) := by
          intro b hb hd
          rcases g3.new b hb with h | h
          · exact hD' b h hd
          · rcases hd with rfl | hd
            · have := hR2.2.1; omega
            · have := hR2.2.2.lt b hd; omega
        have hnx : W3.cell? ⟨x.b, 3, none⟩ = some (ptr (behind (bl, 1) (spots rest))) := by
          have hL := hR3.2.2.linked
          have hsp : spots xs = spots pre ++ (x.b, 0) :: spots rest := by rw [HXS.out]; simp [spots]
          rw [hsp] at hL
          exact (linked_at hL).2
        have hl1 : leftE bl xs (ptr (x.b, 0)) = rest.length + 1 := leftE_eq (bl := bl) (pre := pre) (rest := x :: rest) (by have := hR3.2.2.nodup; grind) HXS.out
        have hl2 : leftE bl xs (ptr (behind (bl, 1) (spots rest))) = rest.length := leftE_eq (pre := pre ++ [x]) (by have := hR3.2.2.nodup; grind) (by rw [HXS.out]; simp)
        have H1 := Lib.hid hl1
        have H2 := Lib.hid hl2
        clear hl1 hl2 hR hy g3 gr2 hR2 hj2 hbx hk hv hne
        gi_wp2
        go_roundw
        case rel => exact ⟨pre ++ [x], rest, U3, rfl, by rw [HXS.out]; simp, hj3, gr3, hR3, hD3⟩
        case measure =>
          show leftE bl xs (ptr (behind (bl, 1) (spots rest))) < leftE bl xs (ptr (x.b, 0))
          rw [H1.out, H2.out]
          omega
      · have gr3 := gr2.trans g3
        clear hR hy g3 gr2 hR2 hj2 hbx hk hv hne
        gi_wp2
        go_end0
        first | exact ⟨_, U3, rfl, gr3, .inr hjx3⟩ | exact ⟨⟨_, rfl⟩, U3, gr3, .inr hjx3⟩

set_option maxRecDepth 100000 in
theorem SE.all_any (bl : Nat) (w : World) :
    Calls Tryz.prog 190 #[ptr (bl, 0)] w fun e w' => e = .returned (.func (.func 197) #[] #[.pointer (some ⟨w.heap.size, 0, none⟩)]) ∧ w' = w.alloc (.cells #[ptr (bl, 0)] 163) := by
  unfold ptr
  go_enter Tryz.func190, Tryz.ntmps190
  go_wp2_with fail
  go_ret
  exact ⟨rfl, rfl⟩

/-- The iterator of a list: whoever has it reads a box of its own. -/
theorem SE.all_own (bl : Nat) (w : World) :
    Calls Tryz.prog 190 #[.pointer (some ⟨bl, 0, none⟩)] w fun e w' => ∃ bx, e = .returned (.func (.func 197) #[] #[.pointer (some ⟨bx, 0, none⟩)]) ∧ Box w' bx (.pointer (some ⟨bl, 0, none⟩)) ∧ Kept (fun _ => False) w w' ∧ w.heap.size ≤ bx := by
  refine (SE.all_any bl w).mono ?_
  rintro e w' ⟨rfl, rfl⟩
  exact ⟨_, rfl, Box.new w _ _, Kept.one_alloc w _, Nat.le_refl _⟩

theorem SE.enters (args : Array Value) (w : World) : (callFunc 197 args).run Tryz.prog w = .ok (.enter 197 args) w := by
  exact enters_body Tryz.func197 (by kernel_rfl) rfl args w
end Go.Proofs.YtdkcnigghcbnpaaGreat
