/- What stands under the walks, part D. -/
import Derived.Test.YtalahbmahpgkeaaNew
import Derived.Test.YtalahbmahpgkeaaTblC
import Derived.Test.YtalahbmahpgkeaaLenMap
import Derived.Lib.SmallJoins
import Derived.Test.YtalahbmahpgkeaaRight
import Derived.Deep.CutBlock
/- A table that was made in this call: Update, Lookup, a byte written into an entry. -/
namespace Go.Proofs.Ytalahbmahpgkeaa
set_option linter.unusedVariables false
set_option linter.unusedSimpArgs false
open Go.RowKit Go.MapKept

/-- Bytes that are written out. -/
theorem bytes_new (w : World) (k : ByteArray) (t : TypeId) {b n : Nat} {C : Array Value} {fr : Nat × Nat} (hb : b = w.heap.size) (hn : n = k.size) (hC : C.toList = byteVs k) : BytesAt (w.alloc (.cells C t fr)) (some ⟨b, 0, none⟩) n k := by
  subst hb
  refine ⟨hn, fun _ ad e => by cases e; exact ⟨_, _, rfl⟩, fun i hi => ⟨w.heap.size, 0, rfl, by simp, ?_⟩⟩
  have h1 := byteVs_at k (j := i) (by omega)
  rw [← hC, Array.getElem?_toList] at h1
  rw [Nat.zero_add]
  exact (World.cell?_alloc_mark w C t fr i).trans h1

/-- A byte of an entry's data is written. -/
def pokeB (v : ByteArray) (j : Nat) (u : UInt8) : ByteArray := ⟨v.data.setIfInBounds j u⟩
theorem pokeB_size (v : ByteArray) (j : Nat) (u : UInt8) : (pokeB v j u).size = v.size := by
  show (v.data.setIfInBounds j u).size = v.data.size
  simp
theorem pokeB_nums (v : ByteArray) (j i : Nat) (u : UInt8) (h : j < v.size) : (nums (pokeB v j u)).getD i 0 = if i = j then (u.toNat : Int) else (nums v).getD i 0 := by
  unfold nums pokeB
  simp only [List.getD_eq_getElem?_getD, List.getElem?_map, Array.getElem?_toList, Array.getElem?_setIfInBounds]
  by_cases e : i = j
  · subst e
    have : i < v.data.size := h
    simp [this, h]
  · rw [if_neg (fun h => e h.symm), if_neg e]
theorem en_poke {W : World} {x : En} (h : EnAt W x) (hbd : x.b ≠ x.d) {j : Nat} (hj : j < x.data.size) (u : UInt8) : EnAt (W.setCell ⟨x.d, j, none⟩ (.int .u8 (u.toNat : Int))) { x with data := pokeB x.data j u } := by
  have kq := Kept.one_set W ⟨x.d, j, none⟩ (.int .u8 (u.toNat : Int))
  have hb : ¬ x.b = x.d := hbd
  refine ⟨h.row.setCell _ _, (World.cell?_setCell_far W _ _ _ (fun e => hb e.symm)).trans h.key, ((World.cell?_setCell_far W _ _ _ (fun e => hb e.symm)).trans h.sl).trans (by rw [pokeB_size]), h.drow.setCell _ _, by show (pokeB x.data j u).size ≤ x.c; rw [pokeB_size]; exact h.le, h.cap, fun i hi => ?_⟩
  have hi' : i < x.data.size := by rw [← pokeB_size x.data j u]; exact hi
  show _ = some (Value.int .u8 ((nums (pokeB x.data j u)).getD i 0))
  rw [pokeB_nums _ _ _ _ hj]
  by_cases e : i = j
  · subst e
    rw [if_pos rfl]
    obtain ⟨c, t, f, hc, hs, -⟩ := h.drow
    have : i < c.size := by have := h.le; omega
    simp [World.cell?, World.setCell, Array.getElem?_modify, hc, this]
  · rw [if_neg e]
    refine (World.cell?_setCell_other W _ _ _ (fun e' => ?_)).trans (h.bytes i hi')
    injection e' with _ e'
    exact e e'.symm

section
variable {W W0 W1 : World} {bt : Nat} {m : TM} {iv : Value} {E E' : List En} {F F' : Nat → Prop} {a va : Option Addr} {n c vn vc : Nat} {k v : ByteArray} {fl : Int}

theorem Made.kept (h : Made W m bt iv E F W0) (q : Kept (fun _ => False) W0 W1) : Made W m bt iv E F W1 := ⟨h.1.kept q (fun _ _ e => e), h.2.1, h.2.2.trans q (fun _ _ e => e)⟩
theorem Made.low (h : Made W0 m bt iv E F W1) (q : Kept (fun _ => False) W W0) : Made W m bt iv E F W1 := ⟨h.1, fun b hb => Nat.le_trans q.size (h.2.1 b hb), q.trans h.2.2 (fun _ _ e => e)⟩

theorem setT_blocks {x : En} (h : x ∈ setT k v E) : ∃ z ∈ E, x.b = z.b ∧ x.d = z.d := by
  unfold setT at h
  obtain ⟨z, hz, rfl⟩ := List.mem_map.1 h
  exact ⟨z, hz, by split <;> rfl, by split <;> rfl⟩
theorem useT_mem {x : En} (h : x ∈ useT m k E) : x ∈ E := by
  unfold useT at h
  split at h
  · split at h
    · rename_i y hy
      rcases List.mem_append.1 h with h | h
      · exact (List.mem_filter.1 h).1
      · rw [List.mem_singleton] at h
        rw [h]
        exact (lookT_some hy).1
    · exact h
  · exact h
theorem addT_mem {x y : En} (h : x ∈ addT m y E) : x ∈ E ∨ x = y := by
  unfold addT at h
  split at h
  · rcases List.mem_append.1 h with h | h
    · exact .inl h
    · exact .inr (by simpa using h)
  · rcases List.mem_append.1 h with h | h
    · exact .inl (List.mem_of_mem_tail h)
    · exact .inr (by simpa using h)
theorem updE_blocks {B : Nat} (h : UpdE B m k v fl E E') {x : En} (hx : x ∈ E') : (∃ z ∈ E, x.b = z.b ∧ x.d = z.d) ∨ (B ≤ x.b ∧ B ≤ x.d) := by
  unfold UpdE at h
  split at h
  · split at h
    · subst h
      obtain ⟨z, hz, e1, e2⟩ := setT_blocks hx
      exact .inl ⟨z, useT_mem hz, e1, e2⟩
    · obtain ⟨eb, ed, ec, h1, h2, rfl⟩ := h
      rcases addT_mem hx with h | rfl
      · exact .inl ⟨x, h, rfl, rfl⟩
      · exact .inr ⟨h1, h2⟩
  · subst h
    exact .inl ⟨x, hx, rfl, rfl⟩

theorem made_upd (h : Made W m bt iv E F W0) (q : Kept (fun _ => False) W0 W1) (hk : BytesAt W1 a n k) (hv : BytesAt W1 va vn v) (hva : ∀ b o, va = some ⟨b, o, none⟩ → ¬ F b) :
    Calls Try.prog 20 #[.pointer (some ⟨bt, 0, none⟩), .slice a n c, .slice va vn vc, .int .i64 fl] W1 fun e w' => e = .returned (.int .i64 (updC m k v fl E)) ∧ (∃ E' F', UpdE W0.heap.size m k v fl E E' ∧ Made W m bt iv E' F' w' ∧ ∀ b, F' b → F b ∨ W0.heap.size ≤ b) ∧ Kept (UpdF k E F) W0 w' := by
  have h1 := h.kept q
  have hz := q.size
  refine (update_any (c := c) (vc := vc) (fl := fl) h1.1 hk hv hva).mono ?_
  rintro e w' ⟨rfl, ⟨E', F', hU, hT, hF⟩, kk⟩
  have hU' : UpdE W0.heap.size m k v fl E E' := by
    unfold UpdE at hU ⊢
    split
    · rename_i h0
      rw [if_pos h0] at hU
      split
      · rename_i h0
        rw [if_pos h0] at hU
        exact hU
      · rename_i h0
        rw [if_neg h0] at hU
        obtain ⟨eb, ed, ec, h1, h2, h3⟩ := hU
        exact ⟨eb, ed, ec, by omega, by omega, h3⟩
    · rename_i h0
      rw [if_neg h0] at hU
      exact hU
  have kk0 : Kept (UpdF k E F) W0 w' := (q.mono (fun _ _ e => e.elim)).trans kk (fun _ _ e => e)
  refine ⟨rfl, ⟨E', F', hU', ⟨hT, ?_, ?_⟩, fun b hb => (hF b hb).imp id (fun e => by omega)⟩, kk0⟩
  · have hW := h.2.2.size
    rintro b (rfl | hf | ⟨x, hx, hb⟩)
    · exact h.2.1 _ (.inl rfl)
    · rcases hF b hf with e | e
      · exact h.2.1 _ (.inr (.inl e))
      · omega
    · rcases updE_blocks hU' hx with ⟨z, hz, e1, e2⟩ | ⟨e1, e2⟩
      · exact h.2.1 b (.inr (.inr ⟨z, hz, by rw [← e1, ← e2]; exact hb⟩))
      · rcases hb with rfl | rfl <;> omega
  · refine Kept.none ((h.2.2.mono (S' := fun b => W.heap.size ≤ b) (fun _ _ e => e.elim)).trans (kk0.mono (fun b _ e => ?_)) (fun _ _ e => e))
    rcases e with e | ⟨x, hx, rfl⟩
    · exact h.2.1 _ (.inr (.inl e))
    · exact h.2.1 _ (.inr (.inr ⟨x, (lookT_some hx).1, .inr rfl⟩))

theorem made_look (h : Made W m bt iv E F W0) (q : Kept (fun _ => False) W0 W1) (hk : BytesAt W1 a n k) :
    Calls Try.prog 22 #[.pointer (some ⟨bt, 0, none⟩), .slice a n c] W1 fun e w' => e = .returned (.tuple #[enV (lookT k E), .bool (lookT k E).isSome]) ∧ ∃ F', Made W m bt iv (useT m k E) F' w' ∧ (∀ b, F' b → F b) ∧ Kept F W0 w' := by
  have h1 := h.kept q
  refine (lookup_any (c := c) h1.1 hk).mono ?_
  rintro e w' ⟨rfl, ⟨F', h2, h3⟩, kk⟩
  have kk0 : Kept F W0 w' := (q.mono (fun _ _ e => e.elim)).trans kk (fun _ _ e => e)
  refine ⟨rfl, F', ⟨h2, ?_, ?_⟩, h3, kk0⟩
  · rintro b (rfl | hf | ⟨x, hx, hb⟩)
    · exact h.2.1 _ (.inl rfl)
    · exact h.2.1 _ (.inr (.inl (h3 b hf)))
    · exact h.2.1 b (.inr (.inr ⟨x, useT_mem hx, hb⟩))
  · exact Kept.none ((h.2.2.mono (S' := fun b => W.heap.size ≤ b) (fun _ _ e => e.elim)).trans (kk0.mono (fun b _ e => h.2.1 _ (.inr (.inl e)))) (fun _ _ e => e))

theorem made_poke (h : Made W m bt iv E F W0) {x : En} (hx : x ∈ E) {j : Nat} (hj : j < x.data.size) (u : UInt8) : Made W m bt iv (setT x.key (pokeB x.data j u) E) F (W0.setCell ⟨x.d, j, none⟩ (.int .u8 (u.toNat : Int))) := by
  have kq := Kept.one_set W0 ⟨x.d, j, none⟩ (.int .u8 (u.toNat : Int))
  refine ⟨h.1.set hx (by rw [pokeB_size]; exact (h.1.size x hx).2) (en_poke (h.1.en x hx) (blocks_ne h.1.blocks hx hx).1 hj u) kq, ?_, ?_⟩
  · rintro b (rfl | hf | ⟨z, hz, hb⟩)
    · exact h.2.1 _ (.inl rfl)
    · exact h.2.1 _ (.inr (.inl hf))
    · obtain ⟨z0, h0, e1, e2⟩ := setT_blocks hz
      exact h.2.1 b (.inr (.inr ⟨z0, h0, by rw [← e1, ← e2]; exact hb⟩))
  · exact Kept.none ((h.2.2.mono (S' := fun b => W.heap.size ≤ b) (fun _ _ e => e.elim)).trans (kq.mono (fun b _ e => by rw [e]; exact h.2.1 _ (.inr (.inr ⟨x, hx, .inr rfl⟩)))) (fun _ _ e => e))
end
end Go.Proofs.Ytalahbmahpgkeaa

/- What is shown in any case: one run of a list's table, walked whole. -/
namespace Go.Proofs.Ytalahbmahpgkeaa
set_option linter.unusedVariables false
set_option linter.unusedSimpArgs false
open Go.RowKit Go.MapKept

def shM : TM := ⟨⟨#[109]⟩, 3, 1, 2, 2⟩
theorem shM_right : shM.right = true := by decide
abbrev kA : ByteArray := ⟨#[97]⟩
abbrev kB : ByteArray := ⟨#[98]⟩
abbrev kC : ByteArray := ⟨#[99]⟩
abbrev v11 : ByteArray := ⟨#[49, 49]⟩
abbrev v22 : ByteArray := ⟨#[50, 50]⟩
abbrev v33 : ByteArray := ⟨#[51, 51]⟩
abbrev v19 : ByteArray := ⟨#[49, 57]⟩

section
variable {W w : World} {bt : Nat} {m : TM} {iv : Value} {E E' : List En} {F F' : Nat → Prop} {fl : Int}
theorem sh_upd (h : Made W m bt iv E F w) (k v : ByteArray) {A C : Array Value} {nk nv b0 b1 : Nat} {f1 f2 : Nat × Nat} (hA : A.toList = byteVs k) (hC : C.toList = byteVs v) (hnk : nk = k.size) (hnv : nv = v.size) (hb0 : b0 = w.heap.size) (hb1 : b1 = w.heap.size + 1) :
    Calls Try.prog 20 #[.pointer (some ⟨bt, 0, none⟩), .slice (some ⟨b0, 0, none⟩) nk nk, .slice (some ⟨b1, 0, none⟩) nv nv, .int .i64 fl] ((w.alloc (.cells A 5 f1)).alloc (.cells C 5 f2)) fun e w' => e = .returned (.int .i64 (updC m k v fl E)) ∧ ∃ E' F', UpdE w.heap.size m k v fl E E' ∧ Made W m bt iv E' F' w' := by
  have hz : (w.alloc (.cells A 5 f1)).heap.size = w.heap.size + 1 := by simp
  refine (made_upd (n := nk) (c := nk) (vn := nv) (vc := nv) (fl := fl) h (((Kept.refl _ w).alloc _).alloc _) ((bytes_new w k 5 hb0 hnk hA).kept (Kept.one_alloc _ _) (fun _ _ _ e => e)) (bytes_new _ v 5 (by omega) hnv hC) (fun b o e hf => ?_)).mono ?_
  · injection e with e
    injection e with e1 e2
    have := h.1.kind.lt h.1.right b hf
    omega
  · rintro e w' ⟨rfl, ⟨E', F', h1, h2, -⟩, -⟩
    exact ⟨rfl, E', F', h1, h2⟩
theorem sh_look (h : Made W m bt iv E F w) (k : ByteArray) {A : Array Value} {nk b0 : Nat} {f1 : Nat × Nat} (hA : A.toList = byteVs k) (hnk : nk = k.size) (hb0 : b0 = w.heap.size) :
    Calls Try.prog 22 #[.pointer (some ⟨bt, 0, none⟩), .slice (some ⟨b0, 0, none⟩) nk nk] (w.alloc (.cells A 5 f1)) fun e w' => e = .returned (.tuple #[enV (lookT k E), .bool (lookT k E).isSome]) ∧ ∃ F', Made W m bt iv (useT m k E) F' w' := by
  refine (made_look (n := nk) (c := nk) h ((Kept.refl _ w).alloc _) (bytes_new w k 5 hb0 hnk hA)).mono ?_
  rintro e w' ⟨rfl, F', h1, -⟩
  exact ⟨rfl, F', h1⟩
theorem sh1 {B : Nat} (h : UpdE B shM kA v11 0 [] E') : ∃ x : En, E' = [x] ∧ x.key = kA ∧ x.data = v11 := by
  have hc : updC shM kA v11 0 [] = 0 := by decide
  unfold UpdE at h
  rw [if_pos hc, if_neg (by decide)] at h
  obtain ⟨eb, ed, ec, -, -, rfl⟩ := h
  exact ⟨⟨eb, ed, ec, kA, v11⟩, rfl, rfl, rfl⟩
theorem sh2 {B : Nat} {x : En} (hx : x.key = kA) (h : UpdE B shM kB v22 0 [x] E') : ∃ y : En, E' = [x, y] ∧ y.key = kB := by
  have hab : ¬ kA = kB := by decide
  have hl : lookT kB [x] = none := by simp [lookT, hx, hab]
  have hc : updC shM kB v22 0 [x] = 0 := by unfold updC; rw [if_neg (by decide), hl]; simp [addC, shM]
  unfold UpdE at h
  rw [if_pos hc, hl, if_neg (by decide)] at h
  obtain ⟨eb, ed, ec, -, -, rfl⟩ := h
  exact ⟨⟨eb, ed, ec, kB, v22⟩, rfl, rfl⟩
theorem sh3 {x y : En} (hx : x.key = kA) (hy : y.key = kB) : lookT kA [x, y] = some x ∧ useT shM kA [x, y] = [y, x] := by
  have hba : ¬ kB = kA := by decide
  have hl : lookT kA [x, y] = some x := by simp [lookT, hx]
  refine ⟨hl, ?_⟩
  unfold useT
  rw [if_pos (show shM.kd = 3 from rfl), hl]
  simp [dropT, hx, hy, hba]
theorem sh4 {x y : En} (hx : x.key = kA) (hd : x.data = v11) (hy : y.key = kB) : setT x.key (pokeB x.data 1 57) [y, x] = [y, { x with data := v19 }] := by
  have hba : ¬ kB = kA := by decide
  have hp : pokeB v11 1 57 = v19 := by decide
  simp [setT, hx, hy, hba, hd, hp]
theorem sh5 {B : Nat} {x y : En} (hx : x.key = kA) (hy : y.key = kB) (h : UpdE B shM kC v33 0 [y, x] E') : ∃ z : En, E' = [x, z] ∧ z.key = kC := by
  have hac : ¬ kA = kC := by decide
  have hbc : ¬ kB = kC := by decide
  have hl : lookT kC [y, x] = none := by simp [lookT, hx, hy, hac, hbc]
  have hc : updC shM kC v33 0 [y, x] = 0 := by unfold updC; rw [if_neg (by decide), hl]; simp [addC, shM]
  unfold UpdE at h
  rw [if_pos hc, hl, if_neg (by decide)] at h
  obtain ⟨eb, ed, ec, -, -, rfl⟩ := h
  exact ⟨⟨eb, ed, ec, kC, v33⟩, rfl, rfl⟩
theorem sh6 {x z : En} (hx : x.key = kA) (hz : z.key = kC) : lookT kB [x, z] = none ∧ useT shM kB [x, z] = [x, z] := by
  have hab : ¬ kA = kB := by decide
  have hcb : ¬ kC = kB := by decide
  have hl : lookT kB [x, z] = none := by simp [lookT, hx, hz, hab, hcb]
  exact ⟨hl, useT_none hl⟩
theorem sh7 {x z : En} (hx : x.key = kA) (hz : z.key = kC) : lookT kA [x, z] = some x ∧ useT shM kA [x, z] = [z, x] := by
  have hba : ¬ kC = kA := by decide
  have hl : lookT kA [x, z] = some x := by simp [lookT, hx]
  refine ⟨hl, ?_⟩
  unfold useT
  rw [if_pos (show shM.kd = 3 from rfl), hl]
  simp [dropT, hx, hz, hba]

theorem fd4 (s : ByteArray) (a b c d : Int) (w : World) : (Instr.field 23 (.agg #[.string s, .int .i64 a, .int .i64 b, .int .i64 c, .int .i64 d]) 4).run Try.prog w = .ok (.int .i64 d) w := by kernel_rfl
theorem cv1 (w : World) (C : Array Value) (n c : Nat) : (convert 34 34 (.slice (some ⟨w.heap.size, 0, none⟩) n c)).run Try.prog (w.alloc (.cells C 5)) = .ok (.slice (some ⟨w.heap.size, 0, none⟩) n c) (w.alloc (.cells C 5 (C.size, C.size + 1))) :=
  Go.Joins.run_convert_bytes_const_at w 34 5 C n c _ rfl Try.underlying34 Try.underlying5
theorem cv2 (w : World) (o : Obj) (C : Array Value) (n c : Nat) : (convert 34 34 (.slice (some ⟨w.heap.size + 1, 0, none⟩) n c)).run Try.prog ((w.alloc o).alloc (.cells C 5)) = .ok (.slice (some ⟨w.heap.size + 1, 0, none⟩) n c) ((w.alloc o).alloc (.cells C 5 (C.size, C.size + 1))) :=
  Go.Joins.run_convert_bytes_const_at (w.alloc o) 34 5 C n c _ (by simp) Try.underlying34 Try.underlying5
set_option maxRecDepth 100000 in
set_option maxHeartbeats 2000000 in
theorem shown_any (W : World) : Calls Try.prog 13 #[] W fun e w' => e = .returned (.bool true) ∧ Kept (fun _ => False) W w' := by
  have hfd := fd4
  have hc1 := cv1
  have hc2 := cv2
  go_enter Try.func13, Try.ntmps13
  go_wp2_with fail
  refine (new_any (W := W) shM).mono ?_
  rintro e w1 (⟨hf, -⟩ | ⟨-, bt, iv, F, E, rfl, hE, hm⟩)
  · rw [shM_right] at hf
    cases hf
  obtain rfl : E = [] := hE.1 (by decide)
  have HM := Lib.hid hm
  clear hm hE
  go_wp2_with fail
  refine (sh_upd HM.out kA v11 (A := #[.int .u8 97]) (C := #[.int .u8 49, .int .u8 49]) (nk := 1) (nv := 2) (b0 := w1.heap.size) (b1 := w1.heap.size + 1) rfl rfl rfl rfl rfl rfl).mono ?_
  rintro e w2 ⟨rfl, E', F2, hU, hm⟩
  obtain ⟨x, rfl, hx, hxd⟩ := sh1 hU
  rw [show updC shM kA v11 0 [] = 0 by decide]
  have HX := Lib.hid (And.intro hx hxd)
  have HM := Lib.hid hm
  clear hU hm hx hxd
  go_wp2_with fail
  refine (sh_upd HM.out kB v22 (A := #[.int .u8 98]) (C := #[.int .u8 50, .int .u8 50]) (nk := 1) (nv := 2) (b0 := w2.heap.size) (b1 := w2.heap.size + 1) rfl rfl rfl rfl rfl rfl).mono ?_
  rintro e w3 ⟨rfl, E', F3, hU, hm⟩
  obtain ⟨y, rfl, hy⟩ := sh2 HX.out.1 hU
  have HY := Lib.hid hy
  have HM := Lib.hid hm
  clear hU hm hy
  go_wp2_with fail
  refine (sh_look HM.out kA (A := #[.int .u8 97]) (nk := 1) (b0 := w3.heap.size) rfl rfl rfl).mono ?_
  rintro e w4 ⟨rfl, F4, hm⟩
  rw [(sh3 HX.out.1 HY.out).1]
  rw [(sh3 HX.out.1 HY.out).2] at hm
  have he := hm.1.en x (by simp)
  have hsl : w4.cell? ⟨x.b, 1, none⟩ = some (.slice (some ⟨x.d, 0, none⟩) 2 x.c) := by have := he.sl; rw [HX.out.2] at this; exact this
  obtain ⟨u, hu⟩ : ∃ u, w4.cell? ⟨x.d, 1, none⟩ = some u := he.drow.some (by have := he.le; rw [HX.out.2] at this; exact this)
  have hfz : w4.frozen? ⟨x.d, 1, none⟩ = false := he.drow.frozen (by have := he.le; rw [HX.out.2] at this; exact this)
  have hp := made_poke hm (x := x) (by simp) (j := 1) (by rw [HX.out.2]; decide) 57
  rw [sh4 HX.out.1 HX.out.2 HY.out] at hp
  have HM := Lib.hid hp
  clear hm he hp
  simp only [enV, Option.isSome_some]
  go_upto_region 10 with fail
  generalize hw5 : w4.setCell ⟨x.d, 1, none⟩ (.int .u8 57) = w5
  have hm : Made W shM bt iv [y, { x with data := v19 }] F4 w5 := by rw [← hw5]; exact HM.out
  clear HM hu hfz hsl hw5
  obtain ⟨x', hx'⟩ : ∃ x' : En, x' = { x with data := v19 } := ⟨_, rfl⟩
  have hxb : x.b = x'.b := by rw [hx']
  have hxk : x'.key = kA := by rw [hx']; exact HX.out.1
  have hxd : x'.data = v19 := by rw [hx']
  rw [← hx'] at hm
  rw [hxb]
  have HM := Lib.hid hm
  have HX := Lib.hid (And.intro hxk hxd)
  clear hm hxk hxd hx' hxb
  go_wp2_with fail
  refine (sh_upd HM.out kC v33 (A := #[.int .u8 99]) (C := #[.int .u8 51, .int .u8 51]) (nk := 1) (nv := 2) (b0 := w5.heap.size) (b1 := w5.heap.size + 1) rfl rfl rfl rfl rfl rfl).mono ?_
  rintro e w6 ⟨rfl, E', F6, hU, hm⟩
  obtain ⟨z, rfl, hz⟩ := sh5 HX.out.1 HY.out hU
  have HZ := Lib.hid hz
  have HM := Lib.hid hm
  clear hU hm hz
  go_wp2_with fail
  refine (sh_look HM.out kB (A := #[.int .u8 98]) (nk := 1) (b0 := w6.heap.size) rfl rfl rfl).mono ?_
  rintro e w7 ⟨rfl, F7, hm⟩
  rw [(sh6 HX.out.1 HZ.out).1]
  rw [(sh6 HX.out.1 HZ.out).2] at hm
  have HM := Lib.hid hm
  clear hm
  simp only [enV, Option.isSome_none]
  go_wp2_with fail
  refine (sh_look HM.out kA (A := #[.int .u8 97]) (nk := 1) (b0 := w7.heap.size) rfl rfl rfl).mono ?_
  rintro e w8 ⟨rfl, F8, hm⟩
  rw [(sh7 HX.out.1 HZ.out).1]
  rw [(sh7 HX.out.1 HZ.out).2] at hm
  have he := hm.1.en x' (by simp)
  have hsl : w8.cell? ⟨x'.b, 1, none⟩ = some (.slice (some ⟨x'.d, 0, none⟩) 2 x'.c) := by have := he.sl; rw [HX.out.2] at this; exact this
  have hky : w8.cell? ⟨x'.b, 0, none⟩ = some (.string kA) := by have := he.key; rw [HX.out.1] at this; exact this
  have hcv : (convert 34 9 (.slice (some ⟨x'.d, 0, none⟩) 2 x'.c)).run Try.prog w8 = .ok (.string v19) w8 := by
    have := he.data.conv (c := x'.c)
    rw [HX.out.2] at this
    exact this
  have HM := Lib.hid hm
  clear hm he
  simp only [enV, Option.isSome_some]
  go_wp2_with fail
  refine (len_any HM.out.1).mono ?_
  rintro e w9 ⟨rfl, k9⟩
  have HM9 := Lib.hid (HM.out.kept k9)
  clear k9 hcv hky hsl
  rw [show (([z, x'] : List En).length : Int) = 2 from rfl]
  go_wp2_with fail
  refine (map_any HM9.out.1).mono ?_
  rintro e w10 ⟨rfl, k10⟩
  have HM10 := Lib.hid (HM9.out.kept k10)
  clear k10
  simp only [TM.v, shM]
  go_wp2_with fail
  refine (map_any HM10.out.1).mono ?_
  rintro e w11 ⟨rfl, k11⟩
  have HM11 := Lib.hid (HM10.out.kept k11)
  clear k11
  simp only [TM.v, shM]
  go_wp2_with fail
  refine (right_any ⟨#[109]⟩ 3 1 2 2 w11).mono ?_
  rintro e w12 ⟨rfl, k12⟩
  rw [show rightB ⟨#[109]⟩ 3 1 2 2 = true from shM_right]
  have HM12 := Lib.hid (HM11.out.kept k12)
  clear k12
  go_wp2_with fail
  go_ret
  exact ⟨rfl, HM12.out.2.2⟩
end
end Go.Proofs.Ytalahbmahpgkeaa
