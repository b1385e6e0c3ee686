/- A table that was made in this call: Update, Lookup, a byte written into an entry. -/
import Derived.Test.YtalahbmahpgkeaaNew
import Derived.Test.YtalahbmahpgkeaaUpdate
import Derived.Test.YtalahbmahpgkeaaDelete
import Derived.Test.YtalahbmahpgkeaaLenMap
import Derived.Lib.SmallJoins
namespace Go.Proofs.Ytalahbmahpgkeaa
set_option linter.unusedVariables false
set_option linter.unusedSimpArgs false
open Go.RowKit Go.MapKept

/-- Bytes that are written out. -/
theorem bytes_new (w : World) (k : ByteArray) (t : TypeId) {b n : Nat} {C : Array Value} {fr : Nat × Nat} (hb : b = w.heap.size) (hn : n = k.size) (hC : C.toList = byteVs k) : BytesAt (w.alloc (.cells C t fr)) (some ⟨b, 0, none⟩) n k := by
  subst hb
  refine ⟨hn, fun _ ad e => by cases e; exact ⟨_, _, rfl⟩, fun i hi => ⟨w.heap.size, 0, rfl, by simp, ?_⟩⟩
  have h1 := byteVs_at k (j := i) (by omega)
  rw [← hC, Array.getElem?_toList] at h1
  rw [Nat.zero_add]
  exact (World.cell?_alloc_mark w C t fr i).trans h1

/-- A byte of an entry's data is written. -/
def pokeB (v : ByteArray) (j : Nat) (u : UInt8) : ByteArray := ⟨v.data.setIfInBounds j u⟩
theorem pokeB_size (v : ByteArray) (j : Nat) (u : UInt8) : (pokeB v j u).size = v.size := by
  show (v.data.setIfInBounds j u).size = v.data.size
  simp
theorem pokeB_nums (v : ByteArray) (j i : Nat) (u : UInt8) (h : j < v.size) : (nums (pokeB v j u)).getD i 0 = if i = j then (u.toNat : Int) else (nums v).getD i 0 := by
  unfold nums pokeB
  simp only [List.getD_eq_getElem?_getD, List.getElem?_map, Array.getElem?_toList, Array.getElem?_setIfInBounds]
  by_cases e : i = j
  · subst e
    have : i < v.data.size := h
    simp [this, h]
  · rw [if_neg (fun h => e h.symm), if_neg e]
theorem en_poke {W : World} {x : En} (h : EnAt W x) (hbd : x.b ≠ x.d) {j : Nat} (hj : j < x.data.size) (u : UInt8) : EnAt (W.setCell ⟨x.d, j, none⟩ (.int .u8 (u.toNat : Int))) { x with data := pokeB x.data j u } := by
  have kq := Kept.one_set W ⟨x.d, j, none⟩ (.int .u8 (u.toNat : Int))
  have hb : ¬ x.b = x.d := hbd
  refine ⟨h.row.setCell _ _, (World.cell?_setCell_far W _ _ _ (fun e => hb e.symm)).trans h.key, ((World.cell?_setCell_far W _ _ _ (fun e => hb e.symm)).trans h.sl).trans (by rw [pokeB_size]), h.drow.setCell _ _, by show (pokeB x.data j u).size ≤ x.c; rw [pokeB_size]; exact h.le, h.cap, fun i hi => ?_⟩
  have hi' : i < x.data.size := by rw [← pokeB_size x.data j u]; exact hi
  show _ = some (Value.int .u8 ((nums (pokeB x.data j u)).getD i 0))
  rw [pokeB_nums _ _ _ _ hj]
  by_cases e : i = j
  · subst e
    rw [if_pos rfl]
    obtain ⟨c, t, hc, hs⟩ := h.drow
    have : i < c.size := by have := h.le; omega
    simp [World.cell?, World.setCell, Array.getElem?_modify, hc, this]
  · rw [if_neg e]
    refine (World.cell?_setCell_other W _ _ _ (fun e' => ?_)).trans (h.bytes i hi')
    injection e' with _ e'
    exact e e'.symm

section
variable {W W0 W1 : World} {bt : Nat} {m : TM} {iv : Value} {E E' : List En} {F F' : Nat → Prop} {a va : Option Addr} {n c vn vc : Nat} {k v : ByteArray} {fl : Int}

theorem Made.kept (h : Made W m bt iv E F W0) (q : Kept (fun _ => False) W0 W1) : Made W m bt iv E F W1 := ⟨h.1.kept q (fun _ _ e => e), h.2.1, h.2.2.trans q (fun _ _ e => e)⟩
theorem Made.low (h : Made W0 m bt iv E F W1) (q : Kept (fun _ => False) W W0) : Made W m bt iv E F W1 := ⟨h.1, fun b hb => Nat.le_trans q.size (h.2.1 b hb), q.trans h.2.2 (fun _ _ e => e)⟩

theorem setT_blocks {x : En} (h : x ∈ setT k v E) : ∃ z ∈ E, x.b = z.b ∧ x.d = z.d := by
  unfold setT at h
  obtain ⟨z, hz, rfl⟩ := List.mem_map.1 h
  exact ⟨z, hz, by split <;> rfl, by split <;> rfl⟩
theorem useT_mem {x : En} (h : x ∈ useT m k E) : x ∈ E := by
  unfold useT at h
  split at h
  · split at h
    · rename_i y hy
      rcases List.mem_append.1 h with h | h
      · exact (List.mem_filter.1 h).1
      · rw [List.mem_singleton] at h
        rw [h]
        exact (lookT_some hy).1
    · exact h
  · exact h
theorem addT_mem {x y : En} (h : x ∈ addT m y E) : x ∈ E ∨ x = y := by
  unfold addT at h
  split at h
  · rcases List.mem_append.1 h with h | h
    · exact .inl h
    · exact .inr (by simpa using h)
  · rcases List.mem_append.1 h with h | h
    · exact .inl (List.mem_of_mem_tail h)
    · exact .inr (by simpa using h)
theorem updE_blocks {B : Nat} (h : UpdE B m k v fl E E') {x : En} (hx : x ∈ E') : (∃ z ∈ E, x.b = z.b ∧ x.d = z.d) ∨ (B ≤ x.b ∧ B ≤ x.d) := by
  unfold UpdE at h
  split at h
  · split at h
    · subst h
      obtain ⟨z, hz, e1, e2⟩ := setT_blocks hx
      exact .inl ⟨z, useT_mem hz, e1, e2⟩
    · obtain ⟨eb, ed, ec, h1, h2, rfl⟩ := h
      rcases addT_mem hx with h | rfl
      · exact .inl ⟨x, h, rfl, rfl⟩
      · exact .inr ⟨h1, h2⟩
  · subst h
    exact .inl ⟨x, hx, rfl, rfl⟩

theorem made_upd (h : Made W m bt iv E F W0) (q : Kept (fun _ => False) W0 W1) (hk : BytesAt W1 a n k) (hv : BytesAt W1 va vn v) (hva : ∀ b o, va = some ⟨b, o, none⟩ → ¬ F b) :
    Calls Try.prog 20 #[.pointer (some ⟨bt, 0, none⟩), .slice a n c, .slice va vn vc, .int .i64 fl] W1 fun e w' => e = .returned (.int .i64 (updC m k v fl E)) ∧ (∃ E' F', UpdE W0.heap.size m k v fl E E' ∧ Made W m bt iv E' F' w' ∧ ∀ b, F' b → F b ∨ W0.heap.size ≤ b) ∧ Kept (UpdF k E F) W0 w' := by
  have h1 := h.kept q
  have hz := q.size
  refine (update_any (c := c) (vc := vc) (fl := fl) h1.1 hk hv hva).mono ?_
  rintro e w' ⟨rfl, ⟨E', F', hU, hT, hF⟩, kk⟩
  have hU' : UpdE W0.heap.size m k v fl E E' := by
    unfold UpdE at hU ⊢
    split
    · rename_i h0
      rw [if_pos h0] at hU
      split
      · rename_i h0
        rw [if_pos h0] at hU
        exact hU
      · rename_i h0
        rw [if_neg h0] at hU
        obtain ⟨eb, ed, ec, h1, h2, h3⟩ := hU
        exact ⟨eb, ed, ec, by omega, by omega, h3⟩
    · rename_i h0
      rw [if_neg h0] at hU
      exact hU
  have kk0 : Kept (UpdF k E F) W0 w' := (q.mono (fun _ _ e => e.elim)).trans kk (fun _ _ e => e)
  refine ⟨rfl, ⟨E', F', hU', ⟨hT, ?_, ?_⟩, fun b hb => (hF b hb).imp id (fun e => by omega)⟩, kk0⟩
  · have hW := h.2.2.size
    rintro b (rfl | hf | ⟨x, hx, hb⟩)
    · exact h.2.1 _ (.inl rfl)
    · rcases hF b hf with e | e
      · exact h.2.1 _ (.inr (.inl e))
      · omega
    · rcases updE_blocks hU' hx with ⟨z, hz, e1, e2⟩ | ⟨e1, e2⟩
      · exact h.2.1 b (.inr (.inr ⟨z, hz, by rw [← e1, ← e2]; exact hb⟩))
      · rcases hb with rfl | rfl <;> omega
  · refine Kept.none ((h.2.2.mono (S' := fun b => W.heap.size ≤ b) (fun _ _ e => e.elim)).trans (kk0.mono (fun b _ e => ?_)) (fun _ _ e => e))
    rcases e with e | ⟨x, hx, rfl⟩
    · exact h.2.1 _ (.inr (.inl e))
    · exact h.2.1 _ (.inr (.inr ⟨x, (lookT_some hx).1, .inr rfl⟩))

theorem made_look (h : Made W m bt iv E F W0) (q : Kept (fun _ => False) W0 W1) (hk : BytesAt W1 a n k) :
    Calls Try.prog 22 #[.pointer (some ⟨bt, 0, none⟩), .slice a n c] W1 fun e w' => e = .returned (.tuple #[enV (lookT k E), .bool (lookT k E).isSome]) ∧ ∃ F', Made W m bt iv (useT m k E) F' w' ∧ (∀ b, F' b → F b) ∧ Kept F W0 w' := by
  have h1 := h.kept q
  refine (lookup_any (c := c) h1.1 hk).mono ?_
  rintro e w' ⟨rfl, ⟨F', h2, h3⟩, kk⟩
  have kk0 : Kept F W0 w' := (q.mono (fun _ _ e => e.elim)).trans kk (fun _ _ e => e)
  refine ⟨rfl, F', ⟨h2, ?_, ?_⟩, h3, kk0⟩
  · rintro b (rfl | hf | ⟨x, hx, hb⟩)
    · exact h.2.1 _ (.inl rfl)
    · exact h.2.1 _ (.inr (.inl (h3 b hf)))
    · exact h.2.1 b (.inr (.inr ⟨x, useT_mem hx, hb⟩))
  · exact Kept.none ((h.2.2.mono (S' := fun b => W.heap.size ≤ b) (fun _ _ e => e.elim)).trans (kk0.mono (fun b _ e => h.2.1 _ (.inr (.inl e)))) (fun _ _ e => e))

theorem made_poke (h : Made W m bt iv E F W0) {x : En} (hx : x ∈ E) {j : Nat} (hj : j < x.data.size) (u : UInt8) : Made W m bt iv (setT x.key (pokeB x.data j u) E) F (W0.setCell ⟨x.d, j, none⟩ (.int .u8 (u.toNat : Int))) := by
  have kq := Kept.one_set W0 ⟨x.d, j, none⟩ (.int .u8 (u.toNat : Int))
  refine ⟨h.1.set hx (by rw [pokeB_size]; exact (h.1.size x hx).2) (en_poke (h.1.en x hx) (blocks_ne h.1.blocks hx hx).1 hj u) kq, ?_, ?_⟩
  · rintro b (rfl | hf | ⟨z, hz, hb⟩)
    · exact h.2.1 _ (.inl rfl)
    · exact h.2.1 _ (.inr (.inl hf))
    · obtain ⟨z0, h0, e1, e2⟩ := setT_blocks hz
      exact h.2.1 b (.inr (.inr ⟨z0, h0, by rw [← e1, ← e2]; exact hb⟩))
  · exact Kept.none ((h.2.2.mono (S' := fun b => W.heap.size ≤ b) (fun _ _ e => e.elim)).trans (kq.mono (fun b _ e => by rw [e]; exact h.2.1 _ (.inr (.inr ⟨x, hx, .inr rfl⟩)))) (fun _ _ e => e))
end
end Go.Proofs.Ytalahbmahpgkeaa
