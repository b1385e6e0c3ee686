/- lru.List.All, ranged over: each entry, the one that was used longest ago first. -/
import Derived.Test.YteiilokhkpaoeaaLruSI
import Derived.Test.YteiilokhkpaoeaaIter
import Derived.Test.YteiilokhkpaoeaaBox
namespace Go.Proofs.Yteiilokhkpaoeaa
set_option linter.unusedVariables false
set_option linter.unusedSimpArgs false
open Go.RowKit Go.MapKept

/-- Where a walk along the ring stands: how many are still to come. -/
noncomputable def leftE {κ ν : Type} (bl : Nat) (xs : List (Ent κ ν)) (p : Value) : Nat :=
  leastOf fun n => ∃ pre rest, xs = pre ++ rest ∧ p = ptr (behind (bl, 1) (spots rest)) ∧ rest.length = n
theorem leftE_eq {κ ν : Type} {bl : Nat} {xs pre rest : List (Ent κ ν)} (hn : (xs.map (·.b)).Nodup) (h : xs = pre ++ rest) : leftE bl xs (ptr (behind (bl, 1) (spots rest))) = rest.length := by
  have hex : ∃ n, ∃ pre' rest', xs = pre' ++ rest' ∧ ptr (behind (bl, 1) (spots rest)) = ptr (behind (bl, 1) (spots rest')) ∧ rest'.length = n := ⟨_, pre, rest, h, rfl, rfl⟩
  obtain ⟨⟨pre', rest', h', e, hlen⟩, _⟩ := leastOf_spec hex
  unfold leftE
  rw [← hlen]
  have e' : behind (bl, 1) (spots rest) = behind (bl, 1) (spots rest') := by
    unfold ptr at e
    injection e with e
    injection e with e
    injection e with e1 e2
    exact Prod.ext e1 e2
  cases rest with
  | nil =>
    cases rest' with
    | nil => rfl
    | cons y t => simp [behind, spots] at e'
  | cons x t =>
    cases rest' with
    | nil => simp [behind, spots] at e'
    | cons y t' =>
      simp only [behind, spots, List.map_cons, List.cons_append, List.head_cons, Prod.mk.injEq, and_true] at e'
      have h1 : xs[pre.length]? = some x := by rw [h]; simp
      have h2 : xs[pre'.length]? = some y := by rw [h']; simp
      have hl1 : pre.length < (xs.map (·.b)).length := by rw [h]; simp
      have hl2 : pre'.length < (xs.map (·.b)).length := by rw [h']; simp
      have : pre.length = pre'.length := by
        refine (List.getElem_inj (h₀ := hl1) (h₁ := hl2) hn).1 ?_
        have g1 : (xs.map (·.b))[pre.length]? = some x.b := by rw [List.getElem?_map, h1]; rfl
        have g2 : (xs.map (·.b))[pre'.length]? = some y.b := by rw [List.getElem?_map, h2]; rfl
        rw [List.getElem?_eq_getElem hl1] at g1
        rw [List.getElem?_eq_getElem hl2] at g2
        rw [Option.some.inj g1, Option.some.inj g2, e']
      have l1 := congrArg List.length h
      have l2 := congrArg List.length h'
      simp at l1 l2 ⊢
      omega

/-- What an iterator over a list reads. -/
def SI.Rd (bx bl bm : Nat) (most : Int) (xs : List (Ent ByteArray Int)) (W : World) : Prop := W.cell? ⟨bx, 0, none⟩ = some (ptr (bl, 0)) ∧ bx < W.heap.size ∧ SI.L W bl bm most xs
theorem SI.Rd.kept {bx bl bm : Nat} {most : Int} {xs : List (Ent ByteArray Int)} {S : Nat → Prop} {W W' : World} (h : SI.Rd bx bl bm most xs W) (k : Kept S W W') (h1 : ¬ S bx) (h2 : ∀ b, Lfp bl bm xs b → ¬ S b) : SI.Rd bx bl bm most xs W' :=
  ⟨(k.cell h.2.1 h1).trans h.1, Nat.lt_of_lt_of_le h.2.1 k.size, h.2.2.kept k h2⟩

theorem SI.Rd.twin {bx bl bm : Nat} {most : Int} {xs : List (Ent ByteArray Int)} {W W' : World} (h : SI.Rd bx bl bm most xs W) (t : Twin W' W) : SI.Rd bx bl bm most xs W' := by
  have hl := h.2.2.twin t
  obtain ⟨n, rfl⟩ := t.eq
  exact ⟨h.1, h.2.1, hl⟩

set_option maxRecDepth 100000 in
set_option maxHeartbeats 1000000 in
theorem SI.all1 (bx bl bm : Nat) (most : Int) (xs : List (Ent ByteArray Int)) :
    IterC Try.prog 55 #[.pointer (some ⟨bx, 0, none⟩)] (fun x : Ent ByteArray Int => #[.string x.k, vSI x.v]) xs (fun b => b = bx ∨ Lfp bl bm xs b) (SI.Rd bx bl bm most xs) := by
  intro l J Jx U W hJ hJx hY h0 hD hlt hR
  have hbx := hR.1
  have hn := hR.2.2.first
  simp only [nx, Nat.reduceAdd] at hn
  unfold ptr at hbx hn
  refine callsIn_of_wp Try.func55 rfl trivial ?_ rfl
  simp only [Try.ntmps55, List.size_toArray, List.length_cons, List.length_nil, Nat.reduceAdd, Nat.reduceSub, Array.replicate_succ, Array.replicate_zero, List.push_toArray, List.append_toArray, List.nil_append, List.cons_append]
  gi_wp2
  gi_loopw [3] (fun p wr => ∃ (pre rest : List (Ent ByteArray Int)) (U' : Nat → Prop), p = ptr (behind (bl, 1) (spots rest)) ∧ xs = pre ++ rest ∧ J pre U' wr ∧ Grow U U' W wr ∧ SI.Rd bx bl bm most xs wr ∧ (∀ b, U' b → ¬ (b = bx ∨ Lfp bl bm xs b))) (fun p _ => leftE bl xs p)
  case atStart => exact ⟨[], xs, U, rfl, rfl, h0, Grow.refl hlt, hR, hD⟩
  case round =>
    obtain ⟨pre, rest, U', rfl, hxs, hj, gr, hR', hD'⟩ := hrel
    have HXS := Lib.hid hxs
    clear hxs hn hbx
    cases rest with
    | nil =>
      have hb : behind (bl, 1) (spots ([] : List (Ent ByteArray Int))) = (bl, 1) := rfl
      rw [hb]
      unfold ptr
      gi_wp2
      refine wpW_region_still (by kernel_rfl) (by kernel_rfl) ?_
      obtain ⟨w2, hw2, t2⟩ : ∃ w2, w2 = ({ wr with drawn := wr.drawn + 1 } : World) ∧ Twin w2 wr := ⟨_, rfl, rfl, rfl, rfl, rfl⟩
      rw [← hw2]
      have gr2 : Grow U U' W w2 := ⟨gr.kept.twin t2, gr.sub, gr.new, fun b hb => by rw [t2.heap]; exact gr.lt b hb⟩
      have hj2 : J pre U' w2 := hJ _ _ _ _ hj ((Kept.refl _ wr).twin t2)
      have hR2 : SI.Rd bx bl bm most xs w2 := hR'.twin t2
      clear hw2 t2 hj gr hb hR'
      have hbx := hR2.1
      unfold ptr at hbx
      have hne := run_neq_ptr_same (P := Try.prog) w2 (tp := 103) ⟨bl, 1, none⟩ Try.underlying103 (n := 4) (by kernel_rfl)
      with_reducible refine wpStill_want (by kernel_rfl) (fun K hK => ?_); go_simp; with_reducible refine hK _ ?_; clear hK K
      with_reducible refine wpStill_want (by kernel_rfl) (fun K hK => ?_); go_simp; with_reducible refine hK _ ?_; clear hK K
      with_reducible refine wpStill_want (by kernel_rfl) (fun K hK => ?_); go_simp; with_reducible refine hK _ ?_; clear hK K
      with_reducible refine wpStill_want (by kernel_rfl) (fun K hK => ?_); go_simp; with_reducible refine hK _ ?_; clear hK K
      with_reducible refine wpStill_want (by kernel_rfl) (fun K hK => ?_); go_simp; with_reducible refine hK _ ?_; clear hK K
      with_reducible refine wpStill_want (by kernel_rfl) (fun K hK => ?_); go_simp; with_reducible refine hK _ ?_; clear hK K
      with_reducible refine wpStill_pass (by kernel_rfl) (fun K hK => ?_); go_simp; with_reducible refine hK _ ?_; clear hK K
      with_reducible refine wpStill_pass (by kernel_rfl) (fun K hK => ?_); go_simp; with_reducible refine hK _ ?_; clear hK K
      with_reducible refine wpStill_pass (by kernel_rfl) (fun K hK => ?_); go_simp; with_reducible refine hK _ ?_; clear hK K
      with_reducible refine wpStill_pass (by kernel_rfl) (fun K hK => ?_); go_simp; with_reducible refine hK _ ?_; clear hK K
      with_reducible refine wpStill_pass (by kernel_rfl) (fun K hK => ?_); go_simp; with_reducible refine hK _ ?_; clear hK K
      with_reducible refine wpStill_pass (by kernel_rfl) (fun K hK => ?_); go_simp; with_reducible refine hK _ ?_; clear hK K
      with_reducible refine wpStill_pass (by kernel_rfl) (fun K hK => ?_); go_simp; with_reducible refine hK _ ?_; clear hK K
      with_reducible refine wpStill_pass (by kernel_rfl) (fun K hK => ?_); go_simp; with_reducible refine hK _ ?_; clear hK K
      with_reducible refine wpStill_pass (by kernel_rfl) (fun K hK => ?_); go_simp; with_reducible refine hK _ ?_; clear hK K
      with_reducible refine wpStill_pass (by kernel_rfl) (fun K hK => ?_); go_simp; with_reducible refine hK _ ?_; clear hK K
      with_reducible refine wpStill_want (by kernel_rfl) (fun K hK => ?_); go_simp; with_reducible refine hK _ ?_; clear hK K
      refine wpStill_nil ?_
      gi_wp2
      go_end0
      exact ⟨⟨_, rfl⟩, U', gr2, .inl (by rw [HXS.out]; simpa using hj2)⟩
    | cons x rest =>
      have hb : behind (bl, 1) (spots (x :: rest)) = (x.b, 0) := rfl
      rw [hb]
      obtain ⟨w2, hw2, t2⟩ : ∃ w2, w2 = ({ wr with drawn := wr.drawn + 1 } : World) ∧ Twin w2 wr := ⟨_, rfl, rfl, rfl, rfl, rfl⟩
      have gr2 : Grow U U' W w2 := ⟨gr.kept.twin t2, gr.sub, gr.new, fun b hb => by rw [t2.heap]; exact gr.lt b hb⟩
      have hj2 : J pre U' w2 := hJ _ _ _ _ hj ((Kept.refl _ wr).twin t2)
      have hR2 : SI.Rd bx bl bm most xs w2 := hR'.twin t2
      have hx : x ∈ xs := by rw [HXS.out]; simp
      have hbx := hR2.1
      have hk := hR2.2.2.key x hx
      have hv := hR2.2.2.val x hx
      have hne := run_neq_ptr_other (P := Try.prog) w2 (tp := 103) (a := ⟨x.b, 0, none⟩) (b := ⟨bl, 1, none⟩) (n := 3) Try.underlying103 (by kernel_rfl) (by intro e; injection e with e1 e2; cases e2) (hR2.2.2.row x hx) hR2.2.2.head
      obtain ⟨fn, tmps, assign, body, hy, hR⟩ := hY pre x rest U' w2 HXS.out hj2 hD' gr2.lt hR2
      simp only [strK] at hk
      unfold ptr at hbx ⊢
      clear t2 hj gr hb hR' hx
      gi_wp2
      refine wpW_region_tail 15 (by kernel_rfl) (by kernel_rfl) ?_
      rw [← hw2]
      clear hw2
      simp only [List.take_succ_cons, List.take_zero, List.drop_succ_cons, List.drop_zero]
      with_reducible refine wpStill_want (by kernel_rfl) (fun K hK => ?_); go_simp; with_reducible refine hK _ ?_; clear hK K
      with_reducible refine wpStill_want (by kernel_rfl) (fun K hK => ?_); go_simp; with_reducible refine hK _ ?_; clear hK K
      with_reducible refine wpStill_want (by kernel_rfl) (fun K hK => ?_); go_simp; with_reducible refine hK _ ?_; clear hK K
      with_reducible refine wpStill_want (by kernel_rfl) (fun K hK => ?_); go_simp; with_reducible refine hK _ ?_; clear hK K
      with_reducible refine wpStill_want (by kernel_rfl) (fun K hK => ?_); go_simp; with_reducible refine hK _ ?_; clear hK K
      with_reducible refine wpStill_want (by kernel_rfl) (fun K hK => ?_); go_simp; with_reducible refine hK _ ?_; clear hK K
      with_reducible refine wpStill_want (by kernel_rfl) (fun K hK => ?_); go_simp; with_reducible refine hK _ ?_; clear hK K
      with_reducible refine wpStill_want (by kernel_rfl) (fun K hK => ?_); go_simp; with_reducible refine hK _ ?_; clear hK K
      with_reducible refine wpStill_want (by kernel_rfl) (fun K hK => ?_); go_simp; with_reducible refine hK _ ?_; clear hK K
      with_reducible refine wpStill_want (by kernel_rfl) (fun K hK => ?_); go_simp; with_reducible refine hK _ ?_; clear hK K
      with_reducible refine wpStill_want (by kernel_rfl) (fun K hK => ?_); go_simp; with_reducible refine hK _ ?_; clear hK K
      with_reducible refine wpStill_want (by kernel_rfl) (fun K hK => ?_); go_simp; with_reducible refine hK _ ?_; clear hK K
      with_reducible refine wpStill_want (by kernel_rfl) (fun K hK => ?_); go_simp; with_reducible refine hK _ ?_; clear hK K
      with_reducible refine wpStill_want (by kernel_rfl) (fun K hK => ?_); go_simp; with_reducible refine hK _ ?_; clear hK K
      with_reducible refine wpStill_want (by kernel_rfl) (fun K hK => ?_); go_simp; with_reducible refine hK _ ?_; clear hK K
      refine wpStill_nil ?_
      gi_wp2
      refine hR.mono ?_
      rintro e W3 ⟨U3, g3, (⟨rfl, hj3⟩ | ⟨rfl, hjx3⟩)⟩
      · have gr3 := gr2.trans g3
        have hR3 : SI.Rd bx bl bm most xs W3 := hR2.kept g3.kept (fun h => hD' _ h (.inl rfl)) (fun b hb h => hD' b h (.inr hb))
        have hD3 : ∀ b, U3 b → ¬ (b = bx ∨ Lfp bl bm xs b) := by
          intro b hb hd
          rcases g3.new b hb with h | h
          · exact hD' b h hd
          · rcases hd with rfl | hd
            · have := hR2.2.1; omega
            · have := hR2.2.2.lt b hd; omega
        have hnx : W3.cell? ⟨x.b, 3, none⟩ = some (ptr (behind (bl, 1) (spots rest))) := by
          have hL := hR3.2.2.linked
          have hsp : spots xs = spots pre ++ (x.b, 0) :: spots rest := by rw [HXS.out]; simp [spots]
          rw [hsp] at hL
          exact (linked_at hL).2
        have hl1 : leftE bl xs (ptr (x.b, 0)) = rest.length + 1 := leftE_eq (bl := bl) (pre := pre) (rest := x :: rest) (by have := hR3.2.2.nodup; grind) HXS.out
        have hl2 : leftE bl xs (ptr (behind (bl, 1) (spots rest))) = rest.length := leftE_eq (pre := pre ++ [x]) (by have := hR3.2.2.nodup; grind) (by rw [HXS.out]; simp)
        have H1 := Lib.hid hl1
        have H2 := Lib.hid hl2
        clear hl1 hl2 hR hy g3 gr2 hR2 hj2 hbx hk hv hne
        gi_wp2
        go_roundw
        case rel => exact ⟨pre ++ [x], rest, U3, rfl, by rw [HXS.out]; simp, hj3, gr3, hR3, hD3⟩
        case measure =>
          show leftE bl xs (ptr (behind (bl, 1) (spots rest))) < leftE bl xs (ptr (x.b, 0))
          rw [H1.out, H2.out]
          omega
      · have gr3 := gr2.trans g3
        clear hR hy g3 gr2 hR2 hj2 hbx hk hv hne
        gi_wp2
        go_end0
        first | exact ⟨_, U3, rfl, gr3, .inr hjx3⟩ | exact ⟨⟨_, rfl⟩, U3, gr3, .inr hjx3⟩

set_option maxRecDepth 100000 in
theorem SI.all_any (bl : Nat) (w : World) :
    Calls Try.prog 29 #[ptr (bl, 0)] w fun e w' => e = .returned (.func (.func 55) #[] #[.pointer (some ⟨w.heap.size, 0, none⟩)]) ∧ w' = w.alloc (.cells #[ptr (bl, 0)] 49) := by
  unfold ptr
  go_enter Try.func29, Try.ntmps29
  go_wp2_with fail
  go_ret
  exact ⟨rfl, rfl⟩

/-- The iterator of a list: whoever has it reads a box of its own. -/
theorem SI.all_own (bl : Nat) (w : World) :
    Calls Try.prog 29 #[.pointer (some ⟨bl, 0, none⟩)] w fun e w' => ∃ bx, e = .returned (.func (.func 55) #[] #[.pointer (some ⟨bx, 0, none⟩)]) ∧ Box w' bx (.pointer (some ⟨bl, 0, none⟩)) ∧ Kept (fun _ => False) w w' ∧ w.heap.size ≤ bx := by
  refine (SI.all_any bl w).mono ?_
  rintro e w' ⟨rfl, rfl⟩
  exact ⟨_, rfl, Box.new w _ _, Kept.one_alloc w _, Nat.le_refl _⟩

theorem SI.enters (args : Array Value) (w : World) : (callFunc 55 args).run Try.prog w = .ok (.enter 55 args) w := by
  exact enters_body Try.func55 (by kernel_rfl) rfl args w
end Go.Proofs.Yteiilokhkpaoeaa
