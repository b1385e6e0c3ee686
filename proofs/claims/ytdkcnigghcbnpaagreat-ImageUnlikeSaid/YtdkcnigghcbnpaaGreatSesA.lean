/- What stands under the walks, part A. -/
import Derived.Test.YtdkcnigghcbnpaaGreatNew
import Derived.Test.YtdkcnigghcbnpaaGreatTblC
import Derived.Test.YtdkcnigghcbnpaaGreatLenMap
import Derived.Lib.SmallJoins
import Derived.IntWalk
import Derived.Deep.CutBlock
import Derived.Lib.ConvBytes
import Derived.RegionTactic
import Derived.ChangeAlike
import Derived.Laws.IdiomStrings
import Derived.Test.YtdkcnigghcbnpaaGreatOrd
/- A table that was made in this call: Update, Lookup, a byte written into an entry. -/
namespace Go.Proofs.YtdkcnigghcbnpaaGreat
set_option linter.unusedVariables false
set_option linter.unusedSimpArgs false
open Go.RowKit Go.MapKept

/-- Bytes that are written out. -/
theorem bytes_new (w : World) (k : ByteArray) (t : TypeId) {b n : Nat} {C : Array Value} {fr : Nat × Nat} (hb : b = w.heap.size) (hn : n = k.size) (hC : C.toList = byteVs k) : BytesAt (w.alloc (.cells C t fr)) (some ⟨b, 0, none⟩) n k := by
  subst hb
  refine ⟨hn, fun _ ad e => by cases e; exact ⟨_, _, rfl⟩, fun i hi => ⟨w.heap.size, 0, rfl, by simp, ?_⟩⟩
  have h1 := byteVs_at k (j := i) (by omega)
  rw [← hC, Array.getElem?_toList] at h1
  rw [Nat.zero_add]
  exact (World.cell?_alloc_mark w C t fr i).trans h1

/-- A byte of an entry's data is written. -/
def pokeB (v : ByteArray) (j : Nat) (u : UInt8) : ByteArray := ⟨v.data.setIfInBounds j u⟩
theorem pokeB_size (v : ByteArray) (j : Nat) (u : UInt8) : (pokeB v j u).size = v.size := by
  show (v.data.setIfInBounds j u).size = v.data.size
  simp
theorem pokeB_nums (v : ByteArray) (j i : Nat) (u : UInt8) (h : j < v.size) : (nums (pokeB v j u)).getD i 0 = if i = j then (u.toNat : Int) else (nums v).getD i 0 := by
  unfold nums pokeB
  simp only [List.getD_eq_getElem?_getD, List.getElem?_map, Array.getElem?_toList, Array.getElem?_setIfInBounds]
  by_cases e : i = j
  · subst e
    have : i < v.data.size := h
    simp [this, h]
  · rw [if_neg (fun h => e h.symm), if_neg e]
theorem en_poke {W : World} {x : En} (h : EnAt W x) (hbd : x.b ≠ x.d) {j : Nat} (hj : j < x.data.size) (u : UInt8) : EnAt (W.setCell ⟨x.d, j, none⟩ (.int .u8 (u.toNat : Int))) { x with data := pokeB x.data j u } := by
  have kq := Kept.one_set W ⟨x.d, j, none⟩ (.int .u8 (u.toNat : Int))
  have hb : ¬ x.b = x.d := hbd
  refine ⟨h.row.setCell _ _, (World.cell?_setCell_far W _ _ _ (fun e => hb e.symm)).trans h.key, ((World.cell?_setCell_far W _ _ _ (fun e => hb e.symm)).trans h.sl).trans (by rw [pokeB_size]), h.drow.setCell _ _, by show (pokeB x.data j u).size ≤ x.c; rw [pokeB_size]; exact h.le, h.cap, fun i hi => ?_⟩
  have hi' : i < x.data.size := by rw [← pokeB_size x.data j u]; exact hi
  show _ = some (Value.int .u8 ((nums (pokeB x.data j u)).getD i 0))
  rw [pokeB_nums _ _ _ _ hj]
  by_cases e : i = j
  · subst e
    rw [if_pos rfl]
    obtain ⟨c, t, f, hc, hs, -⟩ := h.drow
    have : i < c.size := by have := h.le; omega
    simp [World.cell?, World.setCell, Array.getElem?_modify, hc, this]
  · rw [if_neg e]
    refine (World.cell?_setCell_other W _ _ _ (fun e' => ?_)).trans (h.bytes i hi')
    injection e' with _ e'
    exact e e'.symm

section
variable {W W0 W1 : World} {bt : Nat} {m : TM} {iv : Value} {E E' : List En} {F F' : Nat → Prop} {a va : Option Addr} {n c vn vc : Nat} {k v : ByteArray} {fl : Int}

theorem Made.kept (h : Made W m bt iv E F W0) (q : Kept (fun _ => False) W0 W1) : Made W m bt iv E F W1 := ⟨h.1.kept q (fun _ _ e => e), h.2.1, h.2.2.trans q (fun _ _ e => e)⟩
theorem Made.low (h : Made W0 m bt iv E F W1) (q : Kept (fun _ => False) W W0) : Made W m bt iv E F W1 := ⟨h.1, fun b hb => Nat.le_trans q.size (h.2.1 b hb), q.trans h.2.2 (fun _ _ e => e)⟩

theorem setT_blocks {x : En} (h : x ∈ setT k v E) : ∃ z ∈ E, x.b = z.b ∧ x.d = z.d := by
  unfold setT at h
  obtain ⟨z, hz, rfl⟩ := List.mem_map.1 h
  exact ⟨z, hz, by split <;> rfl, by split <;> rfl⟩
theorem useT_mem {x : En} (h : x ∈ useT m k E) : x ∈ E := by
  unfold useT at h
  split at h
  · split at h
    · rename_i y hy
      rcases List.mem_append.1 h with h | h
      · exact (List.mem_filter.1 h).1
      · rw [List.mem_singleton] at h
        rw [h]
        exact (lookT_some hy).1
    · exact h
  · exact h
theorem addT_mem {x y : En} (h : x ∈ addT m y E) : x ∈ E ∨ x = y := by
  unfold addT at h
  split at h
  · rcases List.mem_append.1 h with h | h
    · exact .inl h
    · exact .inr (by simpa using h)
  · rcases List.mem_append.1 h with h | h
    · exact .inl (List.mem_of_mem_tail h)
    · exact .inr (by simpa using h)
theorem updE_blocks {B : Nat} (h : UpdE B m k v fl E E') {x : En} (hx : x ∈ E') : (∃ z ∈ E, x.b = z.b ∧ x.d = z.d) ∨ (B ≤ x.b ∧ B ≤ x.d) := by
  unfold UpdE at h
  split at h
  · split at h
    · subst h
      obtain ⟨z, hz, e1, e2⟩ := setT_blocks hx
      exact .inl ⟨z, useT_mem hz, e1, e2⟩
    · obtain ⟨eb, ed, ec, h1, h2, rfl⟩ := h
      rcases addT_mem hx with h | rfl
      · exact .inl ⟨x, h, rfl, rfl⟩
      · exact .inr ⟨h1, h2⟩
  · subst h
    exact .inl ⟨x, hx, rfl, rfl⟩

theorem made_upd (h : Made W m bt iv E F W0) (q : Kept (fun _ => False) W0 W1) (hk : BytesAt W1 a n k) (hv : BytesAt W1 va vn v) (hva : ∀ b o, va = some ⟨b, o, none⟩ → ¬ F b) :
    Calls Tryz.prog 31 #[.pointer (some ⟨bt, 0, none⟩), .slice a n c, .slice va vn vc, .int .i64 fl] W1 fun e w' => e = .returned (.int .i64 (updC m k v fl E)) ∧ (∃ E' F', UpdE W0.heap.size m k v fl E E' ∧ Made W m bt iv E' F' w' ∧ ∀ b, F' b → F b ∨ W0.heap.size ≤ b) ∧ Kept (UpdF k E F) W0 w' := by
  have h1 := h.kept q
  have hz := q.size
  refine (update_any (c := c) (vc := vc) (fl := fl) h1.1 hk hv hva).mono ?_
  rintro e w' ⟨rfl, ⟨E', F', hU, hT, hF⟩, kk⟩
  have hU' : UpdE W0.heap.size m k v fl E E' := by
    unfold UpdE at hU ⊢
    split
    · rename_i h0
      rw [if_pos h0] at hU
      split
      · rename_i h0
        rw [if_pos h0] at hU
        exact hU
      · rename_i h0
        rw [if_neg h0] at hU
        obtain ⟨eb, ed, ec, h1, h2, h3⟩ := hU
        exact ⟨eb, ed, ec, by omega, by omega, h3⟩
    · rename_i h0
      rw [if_neg h0] at hU
      exact hU
  have kk0 : Kept (UpdF k E F) W0 w' := (q.mono (fun _ _ e => e.elim)).trans kk (fun _ _ e => e)
  refine ⟨rfl, ⟨E', F', hU', ⟨hT, ?_, ?_⟩, fun b hb => (hF b hb).imp id (fun e => by omega)⟩, kk0⟩
  · have hW := h.2.2.size
    rintro b (rfl | hf | ⟨x, hx, hb⟩)
    · exact h.2.1 _ (.inl rfl)
    · rcases hF b hf with e | e
      · exact h.2.1 _ (.inr (.inl e))
      · omega
    · rcases updE_blocks hU' hx with ⟨z, hz, e1, e2⟩ | ⟨e1, e2⟩
      · exact h.2.1 b (.inr (.inr ⟨z, hz, by rw [← e1, ← e2]; exact hb⟩))
      · rcases hb with rfl | rfl <;> omega
  · refine Kept.none ((h.2.2.mono (S' := fun b => W.heap.size ≤ b) (fun _ _ e => e.elim)).trans (kk0.mono (fun b _ e => ?_)) (fun _ _ e => e))
    rcases e with e | ⟨x, hx, rfl⟩
    · exact h.2.1 _ (.inr (.inl e))
    · exact h.2.1 _ (.inr (.inr ⟨x, (lookT_some hx).1, .inr rfl⟩))

theorem made_look (h : Made W m bt iv E F W0) (q : Kept (fun _ => False) W0 W1) (hk : BytesAt W1 a n k) :
    Calls Tryz.prog 22 #[.pointer (some ⟨bt, 0, none⟩), .slice a n c] W1 fun e w' => e = .returned (.tuple #[enV (lookT k E), .bool (lookT k E).isSome]) ∧ ∃ F', Made W m bt iv (useT m k E) F' w' ∧ (∀ b, F' b → F b) ∧ Kept F W0 w' := by
  have h1 := h.kept q
  refine (lookup_any (c := c) h1.1 hk).mono ?_
  rintro e w' ⟨rfl, ⟨F', h2, h3⟩, kk⟩
  have kk0 : Kept F W0 w' := (q.mono (fun _ _ e => e.elim)).trans kk (fun _ _ e => e)
  refine ⟨rfl, F', ⟨h2, ?_, ?_⟩, h3, kk0⟩
  · rintro b (rfl | hf | ⟨x, hx, hb⟩)
    · exact h.2.1 _ (.inl rfl)
    · exact h.2.1 _ (.inr (.inl (h3 b hf)))
    · exact h.2.1 b (.inr (.inr ⟨x, useT_mem hx, hb⟩))
  · exact Kept.none ((h.2.2.mono (S' := fun b => W.heap.size ≤ b) (fun _ _ e => e.elim)).trans (kk0.mono (fun b _ e => h.2.1 _ (.inr (.inl e)))) (fun _ _ e => e))

theorem made_poke (h : Made W m bt iv E F W0) {x : En} (hx : x ∈ E) {j : Nat} (hj : j < x.data.size) (u : UInt8) : Made W m bt iv (setT x.key (pokeB x.data j u) E) F (W0.setCell ⟨x.d, j, none⟩ (.int .u8 (u.toNat : Int))) := by
  have kq := Kept.one_set W0 ⟨x.d, j, none⟩ (.int .u8 (u.toNat : Int))
  refine ⟨h.1.set hx (by rw [pokeB_size]; exact (h.1.size x hx).2) (en_poke (h.1.en x hx) (blocks_ne h.1.blocks hx hx).1 hj u) kq, ?_, ?_⟩
  · rintro b (rfl | hf | ⟨z, hz, hb⟩)
    · exact h.2.1 _ (.inl rfl)
    · exact h.2.1 _ (.inr (.inl hf))
    · obtain ⟨z0, h0, e1, e2⟩ := setT_blocks hz
      exact h.2.1 b (.inr (.inr ⟨z0, h0, by rw [← e1, ← e2]; exact hb⟩))
  · exact Kept.none ((h.2.2.mono (S' := fun b => W.heap.size ≤ b) (fun _ _ e => e.elim)).trans (kq.mono (fun b _ e => by rw [e]; exact h.2.1 _ (.inr (.inr ⟨x, hx, .inr rfl⟩)))) (fun _ _ e => e))
end
end Go.Proofs.YtdkcnigghcbnpaaGreat

/- A table's keys and values as pairs, and what calls make of them: contracts for whoever has a table of his own. -/
namespace Go.Proofs.YtdkcnigghcbnpaaGreat
set_option linter.unusedVariables false
set_option linter.unusedSimpArgs false
open Go.RowKit Go.MapKept

/-! ### Pairs -/
abbrev Pr := ByteArray × ByteArray
def kvs (E : List En) : List Pr := E.map fun x => (x.key, x.data)
def lookP (k : ByteArray) (P : List Pr) : Option ByteArray := (P.find? fun p => decide (p.1 = k)).map (·.2)
def dropP (k : ByteArray) (P : List Pr) : List Pr := P.filter fun p => decide (p.1 ≠ k)
def useP (m : TM) (k : ByteArray) (P : List Pr) : List Pr := if m.kd = 3 then (match lookP k P with | some d => dropP k P ++ [(k, d)] | none => P) else P
def setP (k v : ByteArray) (P : List Pr) : List Pr := P.map fun p => if p.1 = k then (p.1, v) else p
def addP (m : TM) (y : Pr) (P : List Pr) : List Pr := if (P.length : Int) + 1 ≤ m.mx then P ++ [y] else P.tail ++ [y]
def addCP (m : TM) (P : List Pr) : Int := if m.kd = 1 then 3 else if m.kd = 2 ∧ m.mx ≤ (P.length : Int) then 5 else 0
def codeP (m : TM) (k v : ByteArray) (fl : Int) (P : List Pr) : Int :=
  if (k.size : Int) ≠ m.ks ∨ (v.size : Int) ≠ m.vs ∨ fl < 0 ∨ 2 < fl then 1
  else if (lookP k P).isSome then (if fl = 1 then 4 else 0)
  else if fl = 2 then 3 else addCP m P
def updP (m : TM) (k v : ByteArray) (fl : Int) (P : List Pr) : List Pr :=
  if codeP m k v fl P = 0 then (if (lookP k P).isSome then setP k v (useP m k P) else addP m (k, v) P) else P
def delCP (m : TM) (k : ByteArray) (P : List Pr) : Int := if (k.size : Int) ≠ m.ks then 1 else if m.kd = 1 then 6 else if (lookP k P).isSome then 0 else 3
def delP (m : TM) (k : ByteArray) (P : List Pr) : List Pr := if m.kd = 1 then P else dropP k P

section
variable {E E' : List En} {m : TM} {k v : ByteArray} {fl : Int}
theorem kvs_look (k : ByteArray) (E : List En) : lookP k (kvs E) = (lookT k E).map (·.data) := by
  unfold lookP kvs lookT
  rw [List.find?_map, Option.map_map]
  rfl
theorem kvs_some (k : ByteArray) (E : List En) : (lookP k (kvs E)).isSome = (lookT k E).isSome := by rw [kvs_look, Option.isSome_map]
theorem kvs_len (E : List En) : (kvs E).length = E.length := by simp [kvs]
theorem kvs_drop (k : ByteArray) (E : List En) : dropP k (kvs E) = kvs (dropT k E) := by
  unfold dropP kvs dropT
  rw [List.filter_map]
  rfl
theorem kvs_use (m : TM) (k : ByteArray) (E : List En) : useP m k (kvs E) = kvs (useT m k E) := by
  unfold useP useT
  split
  · rw [kvs_look]
    cases h : lookT k E with
    | none => rfl
    | some x =>
      show dropP k (kvs E) ++ [(k, x.data)] = kvs (dropT k E ++ [x])
      rw [kvs_drop, ← (lookT_some h).2]
      simp [kvs]
  · rfl
theorem kvs_set (k v : ByteArray) (E : List En) : setP k v (kvs E) = kvs (setT k v E) := by
  unfold setP kvs setT
  rw [List.map_map, List.map_map]
  refine List.map_congr_left fun x _ => ?_
  simp only [Function.comp]
  split <;> rfl
theorem kvs_add (m : TM) (y : En) (E : List En) : addP m (y.key, y.data) (kvs E) = kvs (addT m y E) := by
  unfold addP addT
  rw [kvs_len]
  split
  · simp [kvs]
  · simp [kvs]
theorem kvs_code (m : TM) (k v : ByteArray) (fl : Int) (E : List En) : codeP m k v fl (kvs E) = updC m k v fl E := by
  unfold codeP updC addCP addC
  rw [kvs_some, kvs_len]
theorem kvs_upd {B : Nat} (h : UpdE B m k v fl E E') : kvs E' = updP m k v fl (kvs E) := by
  unfold UpdE at h
  unfold updP
  rw [kvs_code, kvs_some]
  split
  · rename_i h0
    rw [if_pos h0] at h
    split
    · rename_i h1
      rw [if_pos h1] at h
      rw [h, kvs_use, kvs_set]
    · rename_i h1
      rw [if_neg h1] at h
      obtain ⟨eb, ed, ec, -, -, rfl⟩ := h
      exact (kvs_add m ⟨eb, ed, ec, k, v⟩ E).symm
  · rename_i h0
    rw [if_neg h0] at h
    rw [h]
theorem kvs_delC (m : TM) (k : ByteArray) (E : List En) : delCP m k (kvs E) = delC m k E := by
  unfold delCP delC
  rw [kvs_some]
theorem kvs_del (m : TM) (k : ByteArray) (E : List En) : delP m k (kvs E) = kvs (delE m k E) := by
  unfold delP delE
  rw [kvs_drop]
  split <;> rfl
theorem lookP_mem {P : List Pr} {d : ByteArray} (h : lookP k P = some d) : (k, d) ∈ P := by
  unfold lookP at h
  obtain ⟨p, hp, rfl⟩ := Option.map_eq_some_iff.1 h
  have h1 := List.mem_of_find?_eq_some hp
  have h2 : p.1 = k := by simpa using List.find?_some hp
  rw [← h2]
  exact h1
theorem lookP_none {P : List Pr} (h : ∀ p ∈ P, p.1 ≠ k) : lookP k P = none := by
  unfold lookP
  rw [List.find?_eq_none.2 (by simpa using h)]
  rfl
end

/-! ### A box with a map -/
structure MBox (W : World) (q : Nat) (m : TM) : Prop where
  row : RowAt W q 5
  c0 : W.cell? ⟨q, 0, none⟩ = some (.string m.nm)
  c1 : W.cell? ⟨q, 1, none⟩ = some (.int .i64 m.kd)
  c2 : W.cell? ⟨q, 2, none⟩ = some (.int .i64 m.ks)
  c3 : W.cell? ⟨q, 3, none⟩ = some (.int .i64 m.vs)
  c4 : W.cell? ⟨q, 4, none⟩ = some (.int .i64 m.mx)
theorem MBox.kept {S : Nat → Prop} {W W' : World} {q : Nat} {m : TM} (h : MBox W q m) (k : Kept S W W') (hS : ¬ S q) : MBox W' q m :=
  ⟨h.row.kept k hS, (k.cell (p := ⟨q, 0, none⟩) h.row.lt hS).trans h.c0, (k.cell (p := ⟨q, 1, none⟩) h.row.lt hS).trans h.c1, (k.cell (p := ⟨q, 2, none⟩) h.row.lt hS).trans h.c2, (k.cell (p := ⟨q, 3, none⟩) h.row.lt hS).trans h.c3, (k.cell (p := ⟨q, 4, none⟩) h.row.lt hS).trans h.c4⟩
theorem MBox.new (w : World) (m : TM) (t : TypeId) : MBox (w.alloc (.cells #[.string m.nm, .int .i64 m.kd, .int .i64 m.ks, .int .i64 m.vs, .int .i64 m.mx] t)) w.heap.size m := by
  have hz := heap_alloc_new w (.cells #[.string m.nm, .int .i64 m.kd, .int .i64 m.ks, .int .i64 m.vs, .int .i64 m.mx] t)
  exact ⟨RowAt.new w _ t, by simp only [World.cell?, hz]; rfl, by simp only [World.cell?, hz]; rfl, by simp only [World.cell?, hz]; rfl, by simp only [World.cell?, hz]; rfl, by simp only [World.cell?, hz]; rfl⟩

/-- '[]byte(s)'. -/
theorem bytes_made (w : World) (s : ByteArray) : ∃ c w5, (convert 9 28 (.string s)).run Tryz.prog w = .ok (.slice (some ⟨w.heap.size, 0, none⟩) s.size c) w5 ∧ Kept (fun _ => False) w w5 ∧ BytesAt w5 (some ⟨w.heap.size, 0, none⟩) s.size s ∧ w5.heap.size = w.heap.size + 1 := by
  refine ⟨_, _, Go.Lib.run_convert_string_bytes w 9 28 5 s Tryz.underlying9 Tryz.underlying28 Tryz.underlying5, ?_, ?_, Go.Lib.bytesWorld_size _ _ _⟩
  · exact ⟨rfl, rfl, rfl, by rw [Go.Lib.bytesWorld_size]; omega, fun k hk _ => Go.Lib.bytesWorld_at_old _ _ _ k hk⟩
  · refine ⟨rfl, fun _ ad e => by cases e; exact ⟨_, _, rfl⟩, fun i hi => ⟨w.heap.size, 0, rfl, by rw [Go.Lib.bytesWorld_size]; omega, ?_⟩⟩
    rw [Nat.zero_add, Go.Lib.bytesWorld_cell _ _ _ _ hi]
    have hi' : i < s.data.toList.length := by simpa using hi
    simp [nums, List.getD_eq_getElem?_getD, List.getElem?_eq_getElem hi']

/-! ### A table of one's own -/
def Ses (m : TM) (bt : Nat) (P : List Pr) (Fp : Nat → Prop) (w : World) : Prop := ∃ iv E F, Tb w bt m iv E F ∧ kvs E = P ∧ ∀ b, Tfp bt E F b → Fp b
section
variable {W w w0 w1 : World} {m : TM} {bt : Nat} {P : List Pr} {Fp Fq : Nat → Prop} {a va : Option Addr} {n c vn vc : Nat} {k v : ByteArray} {fl : Int}
theorem Ses.kept {S : Nat → Prop} (h : Ses m bt P Fp w) (q : Kept S w w1) (hS : ∀ b, Fp b → ¬ S b) : Ses m bt P Fp w1 := by
  obtain ⟨iv, E, F, h1, h2, h3⟩ := h
  exact ⟨iv, E, F, h1.kept q (fun b hb => hS b (h3 b hb)), h2, h3⟩
theorem Ses.keep (h : Ses m bt P Fp w) (q : Kept (fun _ => False) w w1) : Ses m bt P Fp w1 := h.kept q (fun _ _ e => e)
theorem Ses.mono (h : Ses m bt P Fp w) (hF : ∀ b, Fp b → Fq b) : Ses m bt P Fq w := by
  obtain ⟨iv, E, F, h1, h2, h3⟩ := h
  exact ⟨iv, E, F, h1, h2, fun b hb => hF b (h3 b hb)⟩
theorem Ses.bound (h : Ses m bt P Fp w) : Ses m bt P (fun b => Fp b ∧ b < w.heap.size) w := by
  obtain ⟨iv, E, F, h1, h2, h3⟩ := h
  exact ⟨iv, E, F, h1, h2, fun b hb => ⟨h3 b hb, h1.lt b hb⟩⟩
theorem Ses.right (h : Ses m bt P Fp w) : m.right = true := by obtain ⟨_, _, _, h1, _⟩ := h; exact h1.right
theorem Ses.len (h : Ses m bt P Fp w) : (P.length : Int) ≤ m.mx := by
  obtain ⟨_, E, _, h1, rfl, _⟩ := h
  rw [kvs_len]
  exact h1.len
theorem Ses.nodup (h : Ses m bt P Fp w) : (P.map (·.1)).Nodup := by
  obtain ⟨_, E, _, h1, rfl, _⟩ := h
  have := h1.keys
  unfold kvs
  rw [List.map_map]
  exact this
theorem Ses.sizes (h : Ses m bt P Fp w) : ∀ p ∈ P, (p.1.size : Int) = m.ks ∧ (p.2.size : Int) = m.vs := by
  obtain ⟨_, E, _, h1, rfl, _⟩ := h
  intro p hp
  obtain ⟨x, hx, rfl⟩ := List.mem_map.1 hp
  exact h1.size x hx
theorem Ses.arr (h : Ses m bt P Fp w) (h1 : m.kd = 1) : P.map (·.1) = (List.range m.mx.toNat).map numK := by
  obtain ⟨_, E, _, h2, rfl, _⟩ := h
  have := h2.arr h1
  unfold kvs
  rw [List.map_map]
  exact this

/-- What a new table has. -/
def newP (m : TM) : List Pr := if m.kd = 1 then (List.range m.mx.toNat).map fun i => (numK i, zeroB m.vs.toNat) else []
theorem ses_new (hr : m.right = true) (W : World) : Calls Tryz.prog 43 #[m.v] W fun e w' => ∃ bt, e = .returned (.tuple #[.pointer (some ⟨bt, 0, none⟩), .int .i64 0]) ∧ Ses m bt (newP m) (fun b => W.heap.size ≤ b ∧ b < w'.heap.size) w' ∧ Kept (fun _ => False) W w' := by
  refine (new_any (W := W) m).mono ?_
  rintro e w' (⟨hf, -⟩ | ⟨-, bt, iv, F, E, rfl, hE, hm⟩)
  · rw [hr] at hf
    cases hf
  refine ⟨bt, rfl, ⟨iv, E, F, hm.1, ?_, fun b hb => ⟨hm.2.1 b hb, hm.1.lt b hb⟩⟩, hm.2.2⟩
  unfold newP
  split
  · rename_i h1
    have h2 := hm.1.arr h1
    have h3 := hE.2 h1
    unfold kvs
    rw [show (fun i => (numK i, zeroB m.vs.toNat)) = (fun k => (k, zeroB m.vs.toNat)) ∘ numK from rfl, ← List.map_map, ← h2, List.map_map]
    refine List.map_congr_left fun x hx => ?_
    simp only [Function.comp, h3 x hx]
  · rename_i h1
    rw [hE.1 h1]
    rfl

/-- Update. -/
theorem ses_upd (h : Ses m bt P Fp w0) (q : Kept (fun _ => False) w0 w1) (hk : BytesAt w1 a n k) (hv : BytesAt w1 va vn v) (hva : ∀ b o, va = some ⟨b, o, none⟩ → ¬ Fp b ∨ w0.heap.size ≤ b) :
    Calls Tryz.prog 31 #[.pointer (some ⟨bt, 0, none⟩), .slice a n c, .slice va vn vc, .int .i64 fl] w1 fun e w' => e = .returned (.int .i64 (codeP m k v fl P)) ∧ Ses m bt (updP m k v fl P) (fun b => Fp b ∨ (w0.heap.size ≤ b ∧ b < w'.heap.size)) w' ∧ Kept Fp w1 w' := by
  obtain ⟨iv, E, F, hT, rfl, hF⟩ := h
  have hz := q.size
  have hT1 := hT.kept q (fun _ _ e => e)
  refine (update_any (c := c) (vc := vc) (fl := fl) hT1 hk hv (fun b o e hf => ?_)).mono ?_
  · rcases hva b o e with h | h
    · exact h (hF b (.inr (.inl hf)))
    · have := hT.kind.lt hT.right b hf
      omega
  · rintro e w' ⟨rfl, ⟨E', F', hU, hT', hF'⟩, kk⟩
    refine ⟨by rw [kvs_code], ⟨iv, E', F', hT', kvs_upd hU, ?_⟩, kk.mono fun b _ e => ?_⟩
    · intro b hb
      have hlt := hT'.lt b hb
      rcases hb with rfl | hf | ⟨x, hx, hb⟩
      · exact .inl (hF _ (.inl rfl))
      · rcases hF' b hf with e | e
        · exact .inl (hF _ (.inr (.inl e)))
        · exact .inr ⟨by omega, hlt⟩
      · rcases updE_blocks hU hx with ⟨z, hz', e1, e2⟩ | ⟨e1, e2⟩
        · exact .inl (hF b (.inr (.inr ⟨z, hz', by rw [← e1, ← e2]; exact hb⟩)))
        · exact .inr ⟨by rcases hb with rfl | rfl <;> omega, hlt⟩
    · rcases e with e | ⟨x, hx, rfl⟩
      · exact hF _ (.inr (.inl e))
      · exact hF _ (.inr (.inr ⟨x, (lookT_some hx).1, .inr rfl⟩))

/-- What Lookup finds. -/
def Found (w : World) (Fp : Nat → Prop) (k : ByteArray) (o : Option ByteArray) (v : Value) : Prop :=
  match o with
  | none => v = .pointer none
  | some d => ∃ x : En, v = .pointer (some ⟨x.b, 0, none⟩) ∧ EnAt w x ∧ x.key = k ∧ x.data = d ∧ x.b ≠ x.d ∧ Fp x.b ∧ Fp x.d
theorem ses_look (h : Ses m bt P Fp w0) (q : Kept (fun _ => False) w0 w1) (hk : BytesAt w1 a n k) :
    Calls Tryz.prog 22 #[.pointer (some ⟨bt, 0, none⟩), .slice a n c] w1 fun e w' => ∃ x, e = .returned (.tuple #[x, .bool (lookP k P).isSome]) ∧ Ses m bt (useP m k P) Fp w' ∧ Found w' Fp k (lookP k P) x ∧ Kept Fp w1 w' := by
  obtain ⟨iv, E, F, hT, rfl, hF⟩ := h
  have hT1 := hT.kept q (fun _ _ e => e)
  refine (lookup_any (c := c) hT1 hk).mono ?_
  rintro e w' ⟨rfl, ⟨F', h2, h3⟩, kk⟩
  refine ⟨_, by rw [kvs_some], ⟨iv, useT m k E, F', h2, (kvs_use m k E).symm, ?_⟩, ?_, kk.mono fun b _ e => hF _ (.inr (.inl e))⟩
  · rintro b (rfl | hf | ⟨x, hx, hb⟩)
    · exact hF _ (.inl rfl)
    · exact hF _ (.inr (.inl (h3 b hf)))
    · exact hF b (.inr (.inr ⟨x, useT_mem hx, hb⟩))
  · rw [kvs_look]
    cases hx : lookT k E with
    | none => exact rfl
    | some x =>
      obtain ⟨hxm, hxk⟩ := lookT_some hx
      exact ⟨x, rfl, h2.en x ((useT_perm hT.keys m k).mem_iff.2 hxm), hxk, rfl, (blocks_ne hT.blocks hxm hxm).1, hF _ (.inr (.inr ⟨x, hxm, .inl rfl⟩)), hF _ (.inr (.inr ⟨x, hxm, .inr rfl⟩))⟩

theorem delE_mem {E : List En} {x : En} (h : x ∈ delE m k E) : x ∈ E := by
  unfold delE at h
  split at h
  · exact h
  · exact (List.mem_filter.1 h).1
theorem ses_del (h : Ses m bt P Fp w0) (q : Kept (fun _ => False) w0 w1) (hk : BytesAt w1 a n k) :
    Calls Tryz.prog 30 #[.pointer (some ⟨bt, 0, none⟩), .slice a n c] w1 fun e w' => e = .returned (.int .i64 (delCP m k P)) ∧ Ses m bt (delP m k P) Fp w' ∧ Kept Fp w1 w' := by
  obtain ⟨iv, E, F, hT, rfl, hF⟩ := h
  have hT1 := hT.kept q (fun _ _ e => e)
  refine (delete_any (c := c) hT1 hk).mono ?_
  rintro e w' ⟨rfl, ⟨F', h2, h3⟩, kk⟩
  refine ⟨by rw [kvs_delC], ⟨iv, delE m k E, F', h2, (kvs_del m k E).symm, ?_⟩, kk.mono fun b _ e => hF _ (.inr (.inl e))⟩
  rintro b (rfl | hf | ⟨x, hx, hb⟩)
  · exact hF _ (.inl rfl)
  · exact hF _ (.inr (.inl (h3 b hf)))
  · exact hF b (.inr (.inr ⟨x, delE_mem hx, hb⟩))
theorem ses_len (h : Ses m bt P Fp w) : Calls Tryz.prog 20 #[.pointer (some ⟨bt, 0, none⟩)] w fun e w' => e = .returned (.int .i64 (P.length : Nat)) ∧ Kept (fun _ => False) w w' := by
  obtain ⟨iv, E, F, hT, rfl, hF⟩ := h
  rw [kvs_len]
  exact len_any hT
theorem ses_map (h : Ses m bt P Fp w) : Calls Tryz.prog 19 #[.pointer (some ⟨bt, 0, none⟩)] w fun e w' => e = .returned m.v ∧ Kept (fun _ => False) w w' := by
  obtain ⟨iv, E, F, hT, rfl, hF⟩ := h
  exact map_any hT
theorem Ses.lt (h : Ses m bt P Fp w) : bt < w.heap.size := by
  obtain ⟨iv, E, F, hT, rfl, hF⟩ := h
  exact hT.row.lt

/-! ### One table alone, behind a world -/
def One (W0 : World) (m : TM) (bt : Nat) (P : List Pr) (w : World) : Prop := Ses m bt P (fun b => W0.heap.size ≤ b) w ∧ Kept (fun _ => False) W0 w
theorem One.keep {W0 : World} (h : One W0 m bt P w) (q : Kept (fun _ => False) w w1) : One W0 m bt P w1 := ⟨h.1.keep q, h.2.trans q (fun _ _ e => e)⟩
theorem one_new (hr : m.right = true) (W : World) : Calls Tryz.prog 43 #[m.v] W fun e w' => ∃ bt, e = .returned (.tuple #[.pointer (some ⟨bt, 0, none⟩), .int .i64 0]) ∧ One W m bt (newP m) w' := by
  refine (ses_new hr W).mono ?_
  rintro e w' ⟨bt, rfl, h, k⟩
  exact ⟨bt, rfl, h.mono fun b h => h.1, k⟩
theorem one_kept {W0 w w' : World} (h : Kept (fun _ => False) W0 w) (k : Kept (fun b => W0.heap.size ≤ b) w w') : Kept (fun _ => False) W0 w' :=
  Kept.none ((h.mono (S' := fun b => W0.heap.size ≤ b) (fun _ _ e => e.elim)).trans k (fun _ _ e => e))
theorem one_upd {W0 : World} (h : One W0 m bt P w0) (q : Kept (fun _ => False) w0 w1) (hk : BytesAt w1 a n k) (hv : BytesAt w1 va vn v) (hva : ∀ b o, va = some ⟨b, o, none⟩ → b < W0.heap.size ∨ w0.heap.size ≤ b) :
    Calls Tryz.prog 31 #[.pointer (some ⟨bt, 0, none⟩), .slice a n c, .slice va vn vc, .int .i64 fl] w1 fun e w' => e = .returned (.int .i64 (codeP m k v fl P)) ∧ One W0 m bt (updP m k v fl P) w' := by
  refine (ses_upd (c := c) (vc := vc) (fl := fl) h.1 q hk hv (fun b o e => (hva b o e).imp (fun h => by omega) id)).mono ?_
  rintro e w' ⟨rfl, h1, k1⟩
  refine ⟨rfl, h1.mono ?_, one_kept (h.2.trans q (fun _ _ e => e)) k1⟩
  have := h.2.size
  rintro b (hb | hb) <;> omega
theorem one_look {W0 : World} (h : One W0 m bt P w0) (q : Kept (fun _ => False) w0 w1) (hk : BytesAt w1 a n k) :
    Calls Tryz.prog 22 #[.pointer (some ⟨bt, 0, none⟩), .slice a n c] w1 fun e w' => ∃ x, e = .returned (.tuple #[x, .bool (lookP k P).isSome]) ∧ One W0 m bt (useP m k P) w' ∧ Found w' (fun b => W0.heap.size ≤ b) k (lookP k P) x := by
  refine (ses_look (c := c) h.1 q hk).mono ?_
  rintro e w' ⟨x, rfl, h1, h2, k1⟩
  exact ⟨x, rfl, ⟨h1, one_kept (h.2.trans q (fun _ _ e => e)) k1⟩, h2⟩
theorem one_del {W0 : World} (h : One W0 m bt P w0) (q : Kept (fun _ => False) w0 w1) (hk : BytesAt w1 a n k) :
    Calls Tryz.prog 30 #[.pointer (some ⟨bt, 0, none⟩), .slice a n c] w1 fun e w' => e = .returned (.int .i64 (delCP m k P)) ∧ One W0 m bt (delP m k P) w' := by
  refine (ses_del (c := c) h.1 q hk).mono ?_
  rintro e w' ⟨rfl, h1, k1⟩
  exact ⟨rfl, h1, one_kept (h.2.trans q (fun _ _ e => e)) k1⟩
theorem one_len {W0 : World} (h : One W0 m bt P w) : Calls Tryz.prog 20 #[.pointer (some ⟨bt, 0, none⟩)] w fun e w' => e = .returned (.int .i64 (P.length : Nat)) ∧ Kept (fun _ => False) w w' ∧ One W0 m bt P w' := by
  refine (ses_len h.1).mono ?_
  rintro e w' ⟨rfl, k1⟩
  exact ⟨rfl, k1, h.keep k1⟩

/-- One byte. -/
def b1 (n : Nat) : ByteArray := ⟨#[UInt8.ofNat n]⟩
theorem bytes_one (w : World) (t : TypeId) (u : Nat) (hu : u < 256) (a : Nat) (ha : a = w.heap.size) : BytesAt (w.alloc (.cells #[.int .u8 (u : Int)] t)) (some ⟨a, 0, none⟩) 1 (b1 u) :=
  bytes_new w (b1 u) t ha rfl (by
    have : (UInt8.ofNat u).toNat = u := by simp; omega
    simp [byteVs, nums, b1, this])
/-- Update with a key that was just made, and one byte. -/
theorem one_put1 {W0 : World} (h : One W0 m bt P w0) (q : Kept (fun _ => False) w0 w1) (hk : BytesAt w1 a n k) (u : Nat) (hu : u < 256) (t : TypeId) (vb : Nat) (hvb : vb = w1.heap.size) :
    Calls Tryz.prog 31 #[.pointer (some ⟨bt, 0, none⟩), .slice a n c, .slice (some ⟨vb, 0, none⟩) 1 1, .int .i64 fl] (w1.alloc (.cells #[.int .u8 (u : Int)] t)) fun e w' => e = .returned (.int .i64 (codeP m k (b1 u) fl P)) ∧ One W0 m bt (updP m k (b1 u) fl P) w' := by
  have kq := Kept.one_alloc w1 (.cells #[.int .u8 (u : Int)] t)
  have hz := q.size
  refine one_upd h (q.trans kq (fun _ _ e => e)) (hk.kept kq (fun _ _ _ e => e)) (bytes_one w1 t u hu vb hvb) (fun b o e => .inr ?_)
  cases e
  omega
end
end Go.Proofs.YtdkcnigghcbnpaaGreat

/- fit: a text, cut or filled. -/
namespace Go.Proofs.YtdkcnigghcbnpaaGreat
set_option linter.unusedVariables false
set_option linter.unusedSimpArgs false
open Go.RowKit Go.MapKept

/-- A text's first bytes, or it and zeros. -/
def fitB (s : ByteArray) (n : Nat) : ByteArray := ⟨(s.data.toList.take n ++ List.replicate (n - s.size) 0).toArray⟩
theorem fitB_size (s : ByteArray) (n : Nat) : (fitB s n).size = n := by
  show ((s.data.toList.take n ++ List.replicate (n - s.size) 0).toArray).size = n
  have h : s.data.toList.length = s.size := by simp
  simp [List.length_take]
  omega
theorem ba_ext {a b : ByteArray} (h : a.data.toList = b.data.toList) : a = b := by
  cases a; cases b
  congr 1
  exact Array.toList_inj.1 h
theorem ba_size (a : ByteArray) : a.size = a.data.toList.length := by simp
theorem fit_law (s : ByteArray) (n M : Nat) (hM : M = min s.size n) : (s.extract 0 M ++ zeroB n).extract 0 n = fitB s n := by
  apply ba_ext
  have h : s.data.toList.length = s.size := by simp
  simp only [Go.Lib.extract_data, ByteArray.data_append, Array.toList_append, List.drop_zero, Nat.sub_zero, zeroB, fitB]
  subst hM
  rw [List.take_append, List.take_take]
  congr 1
  · by_cases h1 : n ≤ s.size
    · congr 1
      omega
    · rw [List.take_of_length_le (by omega), List.take_of_length_le (by omega)]
  · simp only [Array.toList_replicate, List.take_replicate, List.length_take]
    congr 1
    omega
theorem conv_zero (n : Nat) (w : World) : (convert 28 9 (.slice (some ⟨w.heap.size, 0, none⟩) n n)).run Tryz.prog (w.alloc (.cells (madeCells (Value.int .u8 0).cells (n * 1)) 5)).drew = .ok (.string (zeroB n)) (w.alloc (.cells (madeCells (Value.int .u8 0).cells (n * 1)) 5)).drew :=
  ((bytes_new w (zeroB n) 5 rfl (zeroB_size n).symm (made_zero n)).twin (twin_drew _)).conv
set_option maxRecDepth 100000 in
set_option maxHeartbeats 1000000 in
theorem fit_any (s : ByteArray) (n : Nat) (hs : s.size ≤ 9223372036854775807) (hn : n ≤ 100000) (W : World) : Calls Tryz.prog 29 #[.string s, .int .i64 (n : Int)] W fun e w' => e = .returned (.string (fitB s n)) ∧ Kept (fun _ => False) W w' := by
  obtain ⟨M, hM⟩ : ∃ M, M = min s.size n := ⟨_, rfl⟩
  have hmin : min (s.size : Int) (n : Int) = (M : Int) := by omega
  have hM1 : (M : Int) ≤ s.size := by omega
  have hfit := fit_law s n M hM
  have hsz : (n : Int) ≤ ((s.extract 0 M ++ zeroB n).size : Int) := by
    have : (s.extract 0 M ++ zeroB n).size = (s.extract 0 M).size + (zeroB n).size := by simp
    rw [this, zeroB_size]
    omega
  have h0 : (0 : Int) ≤ (M : Int) := by omega
  have h1 : (0 : Int) ≤ (n : Int) := by omega
  have HF := Lib.hid hfit
  generalize hZ : s.extract 0 M ++ zeroB n = Z at hsz hfit HF
  have hmk := make_bytes n hn
  have hcv := conv_zero n
  generalize madeCells (Value.int .u8 0).cells (n * 1) = C at hmk hcv
  have hno : ¬ 9223372036854775807 < min M s.size + (zeroB n).size := by rw [zeroB_size]; omega
  generalize zeroB n = z at hcv hZ hno
  clear hM hfit
  go_enter Tryz.func29, Tryz.ntmps29
  go_wp2_with fail
  go_region
  all_goals
    go_wp2_with fail
    go_ret
    exact ⟨by rw [← HF.out]; rfl, ((Kept.refl _ W).alloc _).drew⟩
end Go.Proofs.YtdkcnigghcbnpaaGreat

/- fit and '[]byte(..)' ahead of a call, in whatever order. -/
namespace Go.Proofs.YtdkcnigghcbnpaaGreat
set_option linter.unusedVariables false
set_option linter.unusedSimpArgs false
open Go.RowKit Go.MapKept

/-- The bytes of a text that was just turned into a row. -/
theorem bytes_row {w Wf : World} {s : ByteArray} {c : Nat} {e : TypeId} {fr : Nat × Nat} (t : Twin Wf (w.alloc (.cells (bytesRow s c) e fr))) {a : Nat} (ha : a = w.heap.size) : BytesAt Wf (some ⟨a, 0, none⟩) s.size s := by
  subst ha
  refine BytesAt.twin ?_ t
  refine ⟨rfl, fun _ ad e => by cases e; exact ⟨_, _, rfl⟩, fun i hi => ⟨w.heap.size, 0, rfl, by simp, ?_⟩⟩
  rw [Nat.zero_add]
  refine (World.cell?_alloc_mark w (bytesRow s c) e fr i).trans ?_
  have hi' : i < s.data.toList.length := by simpa using hi
  simp [bytesRow, nums, Array.getElem?_append, hi, List.getD_eq_getElem?_getD, List.getElem?_eq_getElem hi']

theorem bytes_row_d {w : World} {s : ByteArray} {c : Nat} {e : TypeId} {fr : Nat × Nat} : BytesAt (w.alloc (.cells (bytesRow s c) e fr)).drew (some ⟨w.heap.size, 0, none⟩) s.size s := bytes_row ⟨rfl, rfl, rfl, rfl⟩ rfl
/-- '[]byte(s)': the world behind it, written out. -/
theorem conv_row (w : World) (s : ByteArray) : (convert 9 28 (.string s)).run Tryz.prog w = .ok (.slice (some ⟨w.heap.size, 0, none⟩) s.size (grownCap w s.size 0 5)) ((w.alloc (.cells (bytesRow s (grownCap w s.size 0 5)) 5 ((bytesRow s (grownCap w s.size 0 5)).size, (bytesRow s (grownCap w s.size 0 5)).size + 1))).drew) :=
  run_bytes_of_string w 9 28 5 s Tryz.underlying9 Tryz.underlying28 Tryz.underlying5

/-- A call that leaves what was there, and four cells. -/
theorem fit_keep {f : Nat} {args : Array Value} {v : Value} {wr : World} {q b o : Nat} {K V : Int} {ky vl : ByteArray} (h : ∀ w, Calls Tryz.prog f args w fun e w' => e = .returned v ∧ Kept (fun _ => False) w w')
    (hq : q < wr.heap.size) (hb : b < wr.heap.size) (c2 : wr.cell? ⟨q, 2, none⟩ = some (.int .i64 K)) (c3 : wr.cell? ⟨q, 3, none⟩ = some (.int .i64 V)) (s1 : wr.cell? ⟨b, o + 1, none⟩ = some (.string ky)) (s2 : wr.cell? ⟨b, o + 2, none⟩ = some (.string vl)) :
    ∀ W', Kept (fun _ => False) wr W' → Calls Tryz.prog f args W' fun e w' => e = .returned v ∧ (w'.cell? ⟨q, 2, none⟩ = some (.int .i64 K) ∧ w'.cell? ⟨q, 3, none⟩ = some (.int .i64 V) ∧ w'.cell? ⟨b, o + 1, none⟩ = some (.string ky) ∧ w'.cell? ⟨b, o + 2, none⟩ = some (.string vl)) ∧ Kept (fun _ => False) wr w' ∧ Kept (fun _ => False) W' w' := by
  intro W' k
  refine (h W').mono ?_
  rintro e w' ⟨rfl, k'⟩
  have kk := k.trans k' (fun _ _ e => e)
  exact ⟨rfl, ⟨(kk.cell (p := ⟨q, 2, none⟩) hq (fun e => e)).trans c2, (kk.cell (p := ⟨q, 3, none⟩) hq (fun e => e)).trans c3, (kk.cell (p := ⟨b, o + 1, none⟩) hb (fun e => e)).trans s1, (kk.cell (p := ⟨b, o + 2, none⟩) hb (fun e => e)).trans s2⟩, kk, k'⟩
/-- The world behind '[]byte(s)', under a name of its own. -/
theorem conv_abs {K : World → Prop} {w : World} {s : ByteArray} {c : Nat} {e : TypeId} {fr : Nat × Nat} (h : ∀ w', Kept (fun _ => False) w w' → BytesAt w' (some ⟨w.heap.size, 0, none⟩) s.size s → K w') : K (w.alloc (.cells (bytesRow s c) e fr)) :=
  h _ (Kept.one_alloc w _) (bytes_row (Twin.refl _) rfl)
theorem conv_absD {K : World → Prop} {w : World} {s : ByteArray} {c : Nat} {e : TypeId} {fr : Nat × Nat} (h : ∀ w', Kept (fun _ => False) w w' → BytesAt w' (some ⟨w.heap.size, 0, none⟩) s.size s → K w') : K (w.alloc (.cells (bytesRow s c) e fr)).drew :=
  h _ (Kept.one_alloc w _).drew bytes_row_d
end Go.Proofs.YtdkcnigghcbnpaaGreat

/- Two tables side by side, a hash and a list: the same keys and values, in whatever order. -/
namespace Go.Proofs.YtdkcnigghcbnpaaGreat
set_option linter.unusedVariables false
set_option linter.unusedSimpArgs false
open Go.RowKit Go.MapKept

/-! ### The plain law -/
section
variable {P Q : List Pr} {m n : TM} {k v : ByteArray} {fl : Int}
theorem lookP_some_iff (hn : (P.map (·.1)).Nodup) {d : ByteArray} : lookP k P = some d ↔ (k, d) ∈ P := by
  constructor
  · exact lookP_mem
  · intro h
    unfold lookP
    induction P with
    | nil => cases h
    | cons p P ih =>
      rw [List.find?_cons]
      rw [List.map_cons, List.nodup_cons] at hn
      rcases List.mem_cons.1 h with e | h
      · rw [← e]
        simp
      · have hne : p.1 ≠ k := fun e => hn.1 (by rw [e]; exact List.mem_map_of_mem (f := Prod.fst) h)
        rw [decide_eq_false hne]
        exact ih hn.2 h
theorem perm_look (hp : P.Perm Q) (hn : (P.map (·.1)).Nodup) (k : ByteArray) : lookP k P = lookP k Q := by
  have hn2 : (Q.map (·.1)).Nodup := ((hp.map _).nodup_iff).1 hn
  cases h : lookP k P with
  | some d => exact ((lookP_some_iff hn2).2 (hp.mem_iff.1 ((lookP_some_iff hn).1 h))).symm
  | none =>
    cases h2 : lookP k Q with
    | none => rfl
    | some d => rw [(lookP_some_iff hn).2 (hp.mem_iff.2 ((lookP_some_iff hn2).1 h2))] at h; cases h
theorem useP_perm (hn : (P.map (·.1)).Nodup) (m : TM) (k : ByteArray) : (useP m k P).Perm P := by
  unfold useP
  split
  · cases h : lookP k P with
    | none => exact .refl _
    | some d =>
      show (dropP k P ++ [(k, d)]).Perm P
      have hm := (lookP_some_iff hn).1 h
      obtain ⟨l1, l2, rfl⟩ := List.append_of_mem hm
      have h1 : dropP k (l1 ++ (k, d) :: l2) = l1 ++ l2 := by
        unfold dropP
        rw [List.map_append, List.map_cons] at hn
        have a1 : ∀ p ∈ l1, p.1 ≠ k := fun p hp e => (List.nodup_append.1 hn).2.2 p.1 (List.mem_map_of_mem hp) k (by simp) e
        have a2 : ∀ p ∈ l2, p.1 ≠ k := fun p hp e => (List.nodup_cons.1 (List.nodup_append.1 hn).2.1).1 (by have := List.mem_map_of_mem (f := Prod.fst) hp; rw [e] at this; exact this)
        rw [List.filter_append, List.filter_cons_of_neg (by simp), List.filter_eq_self.2 (by simpa using a1), List.filter_eq_self.2 (by simpa using a2)]
      rw [h1, List.append_assoc]
      exact List.Perm.append_left _ (List.perm_append_singleton _ _)
  · exact .refl _
theorem kinds_code (hp : P.Perm Q) (hn : (P.map (·.1)).Nodup) (hks : m.ks = n.ks) (hvs : m.vs = n.vs) (h2 : m.kd = 2) (h3 : n.kd = 3) (hl : (P.length : Int) < m.mx) : codeP m k v fl P = codeP n k v fl Q := by
  unfold codeP addCP
  rw [perm_look hp hn, hks, hvs, h2, h3]
  simp only [show ¬ (2 : Int) = 1 by decide, show ¬ (3 : Int) = 1 by decide, show ¬ (3 : Int) = 2 by decide, if_false, false_and, true_and]
  rw [if_neg (by omega : ¬ m.mx ≤ (P.length : Int))]
theorem kinds_upd (hp : P.Perm Q) (hn : (P.map (·.1)).Nodup) (hks : m.ks = n.ks) (hvs : m.vs = n.vs) (h2 : m.kd = 2) (h3 : n.kd = 3) (hl : (P.length : Int) < m.mx) (hmx : m.mx = n.mx) :
    (updP m k v fl P).Perm (updP n k v fl Q) ∧ (updP m k v fl P).length ≤ P.length + 1 := by
  have hn2 : (Q.map (·.1)).Nodup := ((hp.map _).nodup_iff).1 hn
  unfold updP
  rw [← kinds_code hp hn hks hvs h2 h3 hl, ← perm_look hp hn]
  split
  · split
    · have e1 : useP m k P = P := by unfold useP; rw [if_neg (by omega)]
      rw [e1]
      refine ⟨(hp.map _).trans (((useP_perm hn2 n k).symm).map _), by simp [setP]⟩
    · unfold addP
      have hql := hp.length_eq
      rw [if_pos (by omega), if_pos (by omega)]
      exact ⟨hp.append_right _, by simp⟩
  · exact ⟨hp, by omega⟩
theorem kinds_del (hp : P.Perm Q) (hn : (P.map (·.1)).Nodup) (hks : m.ks = n.ks) (h2 : m.kd = 2) (h3 : n.kd = 3) : delCP m k P = delCP n k Q ∧ (delP m k P).Perm (delP n k Q) ∧ (delP m k P).length ≤ P.length := by
  unfold delCP delP
  rw [perm_look hp hn, hks, h2, h3]
  simp only [show ¬ (2 : Int) = 1 by decide, show ¬ (3 : Int) = 1 by decide, if_false]
  refine ⟨by trivial, hp.filter _, List.length_filter_le _ _⟩
end

/-! ### The tables -/
structure KSt (W0 : World) (ub : Nat) (m n : TM) (bt bu : Nat) (P1 P2 : List Pr) (F1 F2 : Nat → Prop) (w : World) : Prop where
  a : Ses m bt P1 F1 w
  b : Ses n bu P2 F2 w
  dis : ∀ b, F1 b → ¬ F2 b
  at' : ∀ b, F1 b ∨ F2 b → W0.heap.size ≤ b ∧ b ≠ ub ∧ b < w.heap.size
  box : Box w ub (.pointer (some ⟨bu, 0, none⟩))
  back : Kept (fun _ => False) W0 w
  ub0 : W0.heap.size ≤ ub
section
variable {W0 w w0 w1 : World} {ub bt bu : Nat} {m n : TM} {P1 P2 : List Pr} {F1 F2 : Nat → Prop} {a va : Option Addr} {l c vl vc : Nat} {k v : ByteArray} {fl : Int}
theorem KSt.keep (h : KSt W0 ub m n bt bu P1 P2 F1 F2 w) (q : Kept (fun _ => False) w w1) : KSt W0 ub m n bt bu P1 P2 F1 F2 w1 :=
  ⟨h.a.keep q, h.b.keep q, h.dis, fun b hb => by have := h.at' b hb; have := q.size; omega, h.box.kept q (fun e => e), h.back.trans q (fun _ _ e => e), h.ub0⟩
theorem kst_step1 {P' : List Pr} {F' : Nat → Prop} (h : KSt W0 ub m n bt bu P1 P2 F1 F2 w0) (q : Kept (fun _ => False) w0 w1) (hs : Ses m bt P' F' w) (hF : ∀ b, F' b → F1 b ∨ (w0.heap.size ≤ b ∧ b < w.heap.size)) (k1 : Kept F1 w1 w) : KSt W0 ub m n bt bu P' P2 F' F2 w := by
  have h1 := h.keep q
  have hz := q.size
  have hk := k1.size
  have hub := h.box.lt
  refine ⟨hs, h1.b.kept k1 (fun b hb e => h.dis b e hb), fun b hb hb2 => ?_, fun b hb => ?_, h1.box.kept k1 (fun e => (h.at' ub (.inl e)).2.1 rfl), one_kept h1.back (k1.mono fun b _ e => (h.at' b (.inl e)).1), h.ub0⟩
  · rcases hF b hb with e | e
    · exact h.dis b e hb2
    · have := h.at' b (.inr hb2)
      omega
  · rcases hb with hb | hb
    · rcases hF b hb with e | e
      · have := h.at' b (.inl e)
        omega
      · have := h.back.size
        omega
    · have := h.at' b (.inr hb)
      omega
theorem kst_step2 {P' : List Pr} {F' : Nat → Prop} (h : KSt W0 ub m n bt bu P1 P2 F1 F2 w0) (q : Kept (fun _ => False) w0 w1) (hs : Ses n bu P' F' w) (hF : ∀ b, F' b → F2 b ∨ (w0.heap.size ≤ b ∧ b < w.heap.size)) (k1 : Kept F2 w1 w) : KSt W0 ub m n bt bu P1 P' F1 F' w := by
  have h1 := h.keep q
  have hz := q.size
  have hk := k1.size
  have hub := h.box.lt
  refine ⟨h1.a.kept k1 (fun b hb e => h.dis b hb e), hs, fun b hb hb2 => ?_, fun b hb => ?_, h1.box.kept k1 (fun e => (h.at' ub (.inr e)).2.1 rfl), one_kept h1.back (k1.mono fun b _ e => (h.at' b (.inr e)).1), h.ub0⟩
  · rcases hF b hb2 with e | e
    · exact h.dis b hb e
    · have := h.at' b (.inl hb)
      omega
  · rcases hb with hb | hb
    · have := h.at' b (.inl hb)
      omega
    · rcases hF b hb with e | e
      · have := h.at' b (.inr e)
        omega
      · have := h.back.size
        omega
theorem kst_look1 (h : KSt W0 ub m n bt bu P1 P2 F1 F2 w0) (q : Kept (fun _ => False) w0 w1) (hk : BytesAt w1 a l k) :
    Calls Tryz.prog 22 #[.pointer (some ⟨bt, 0, none⟩), .slice a l c] w1 fun e w' => ∃ x, e = .returned (.tuple #[x, .bool (lookP k P1).isSome]) ∧ KSt W0 ub m n bt bu (useP m k P1) P2 F1 F2 w' ∧ Found w' F1 k (lookP k P1) x ∧ Kept F1 w1 w' := by
  refine (ses_look (c := c) h.a q hk).mono ?_
  rintro e w' ⟨x, rfl, hs, hf, kk⟩
  exact ⟨x, rfl, kst_step1 h q hs (fun b hb => .inl hb) kk, hf, kk⟩
theorem kst_look2 (h : KSt W0 ub m n bt bu P1 P2 F1 F2 w0) (q : Kept (fun _ => False) w0 w1) (hk : BytesAt w1 a l k) :
    Calls Tryz.prog 22 #[.pointer (some ⟨bu, 0, none⟩), .slice a l c] w1 fun e w' => ∃ x, e = .returned (.tuple #[x, .bool (lookP k P2).isSome]) ∧ KSt W0 ub m n bt bu P1 (useP n k P2) F1 F2 w' ∧ Found w' F2 k (lookP k P2) x ∧ Kept F2 w1 w' := by
  refine (ses_look (c := c) h.b q hk).mono ?_
  rintro e w' ⟨x, rfl, hs, hf, kk⟩
  exact ⟨x, rfl, kst_step2 h q hs (fun b hb => .inl hb) kk, hf, kk⟩
theorem kst_upd1 (h : KSt W0 ub m n bt bu P1 P2 F1 F2 w0) (q : Kept (fun _ => False) w0 w1) (hk : BytesAt w1 a l k) (hv : BytesAt w1 va vl v) (hva : ∀ b o, va = some ⟨b, o, none⟩ → ¬ F1 b ∨ w0.heap.size ≤ b) :
    Calls Tryz.prog 31 #[.pointer (some ⟨bt, 0, none⟩), .slice a l c, .slice va vl vc, .int .i64 fl] w1 fun e w' => e = .returned (.int .i64 (codeP m k v fl P1)) ∧ (∃ F', KSt W0 ub m n bt bu (updP m k v fl P1) P2 F' F2 w' ∧ ∀ b, F' b → F1 b ∨ w0.heap.size ≤ b) ∧ Kept F1 w1 w' := by
  refine (ses_upd (c := c) (vc := vc) (fl := fl) h.a q hk hv hva).mono ?_
  rintro e w' ⟨rfl, hs, kk⟩
  exact ⟨rfl, ⟨_, kst_step1 h q hs (fun b hb => hb) kk, fun b hb => hb.imp id (·.1)⟩, kk⟩
theorem kst_upd2 (h : KSt W0 ub m n bt bu P1 P2 F1 F2 w0) (q : Kept (fun _ => False) w0 w1) (hk : BytesAt w1 a l k) (hv : BytesAt w1 va vl v) (hva : ∀ b o, va = some ⟨b, o, none⟩ → ¬ F2 b ∨ w0.heap.size ≤ b) :
    Calls Tryz.prog 31 #[.pointer (some ⟨bu, 0, none⟩), .slice a l c, .slice va vl vc, .int .i64 fl] w1 fun e w' => e = .returned (.int .i64 (codeP n k v fl P2)) ∧ (∃ F', KSt W0 ub m n bt bu P1 (updP n k v fl P2) F1 F' w' ∧ ∀ b, F' b → F2 b ∨ w0.heap.size ≤ b) ∧ Kept F2 w1 w' := by
  refine (ses_upd (c := c) (vc := vc) (fl := fl) h.b q hk hv hva).mono ?_
  rintro e w' ⟨rfl, hs, kk⟩
  exact ⟨rfl, ⟨_, kst_step2 h q hs (fun b hb => hb) kk, fun b hb => hb.imp id (·.1)⟩, kk⟩
theorem kst_del1 (h : KSt W0 ub m n bt bu P1 P2 F1 F2 w0) (q : Kept (fun _ => False) w0 w1) (hk : BytesAt w1 a l k) :
    Calls Tryz.prog 30 #[.pointer (some ⟨bt, 0, none⟩), .slice a l c] w1 fun e w' => e = .returned (.int .i64 (delCP m k P1)) ∧ KSt W0 ub m n bt bu (delP m k P1) P2 F1 F2 w' ∧ Kept F1 w1 w' := by
  refine (ses_del (c := c) h.a q hk).mono ?_
  rintro e w' ⟨rfl, hs, kk⟩
  exact ⟨rfl, kst_step1 h q hs (fun b hb => .inl hb) kk, kk⟩
theorem kst_del2 (h : KSt W0 ub m n bt bu P1 P2 F1 F2 w0) (q : Kept (fun _ => False) w0 w1) (hk : BytesAt w1 a l k) :
    Calls Tryz.prog 30 #[.pointer (some ⟨bu, 0, none⟩), .slice a l c] w1 fun e w' => e = .returned (.int .i64 (delCP n k P2)) ∧ KSt W0 ub m n bt bu P1 (delP n k P2) F1 F2 w' ∧ Kept F2 w1 w' := by
  refine (ses_del (c := c) h.b q hk).mono ?_
  rintro e w' ⟨rfl, hs, kk⟩
  exact ⟨rfl, kst_step2 h q hs (fun b hb => .inl hb) kk, kk⟩
theorem kst_start {w4 w5 : World} (hs1 : Ses m bt P1 (fun b => W0.heap.size ≤ b ∧ b < w4.heap.size) w4) (k4 : Kept (fun _ => False) W0 w4) (hs2 : Ses n bu P2 (fun b => w4.heap.size ≤ b ∧ b < w5.heap.size) w5) (k5 : Kept (fun _ => False) w4 w5) (t : TypeId) :
    KSt W0 w5.heap.size m n bt bu P1 P2 (fun b => W0.heap.size ≤ b ∧ b < w4.heap.size) (fun b => w4.heap.size ≤ b ∧ b < w5.heap.size) (w5.alloc (.cells #[.pointer (some ⟨bu, 0, none⟩)] t)) := by
  have ka := Kept.one_alloc w5 (.cells #[.pointer (some ⟨bu, 0, none⟩)] t)
  have z4 := k4.size
  have z5 := k5.size
  refine ⟨(hs1.keep k5).keep ka, hs2.keep ka, fun b h1 h2 => by omega, fun b hb => ?_, Box.new w5 _ t, (k4.trans k5 (fun _ _ e => e)).trans ka (fun _ _ e => e), by omega⟩
  rw [World.size_alloc]
  rcases hb with h | h <;> refine ⟨?_, ?_, ?_⟩ <;> omega
theorem KSt.out (h : KSt W0 ub m n bt bu P1 P2 F1 F2 w) {b : Nat} (hb : b < w.heap.size) (hn : b < W0.heap.size ∨ b = ub) : ¬ F1 b ∧ ¬ F2 b := by
  refine ⟨fun e => ?_, fun e => ?_⟩
  · have := h.at' b (.inl e)
    omega
  · have := h.at' b (.inr e)
    omega
end

/-! ### In a round: the tables, a key and a value in rows of their own, and a block beside them -/
structure PSt (W0 : World) (ub : Nat) (m n : TM) (bt bu : Nat) (sb kx vx : Nat) (fl : Int) (k v : ByteArray) (P1 P2 : List Pr) (w : World) : Prop where
  ex : ∃ F1 F2, KSt W0 ub m n bt bu P1 P2 F1 F2 w ∧ (∀ b, b = sb ∨ b = kx ∨ b = vx → ¬ F1 b ∧ ¬ F2 b)
  bk : BytesAt w (some ⟨kx, 0, none⟩) k.size k
  bv : BytesAt w (some ⟨vx, 0, none⟩) v.size v
  c3 : w.cell? ⟨sb, 3, none⟩ = some (.int .i64 fl)
  lt : ∀ b, b = sb ∨ b = kx ∨ b = vx → b < w.heap.size
section
variable {W0 w w0 w1 : World} {ub bt bu : Nat} {m n : TM} {sb kx vx : Nat} {fl : Int} {k v : ByteArray} {P1 P2 : List Pr} {c vc : Nat}
theorem PSt.change {S : Nat → Prop} {P1' P2' : List Pr} (h : PSt W0 ub m n bt bu sb kx vx fl k v P1 P2 w0) (q : Kept S w0 w) (hS : ∀ b, b = sb ∨ b = kx ∨ b = vx → ¬ S b) (ex : ∃ F1 F2, KSt W0 ub m n bt bu P1' P2' F1 F2 w ∧ (∀ b, b = sb ∨ b = kx ∨ b = vx → ¬ F1 b ∧ ¬ F2 b)) : PSt W0 ub m n bt bu sb kx vx fl k v P1' P2' w :=
  ⟨ex, h.bk.kept q (fun b o e => by cases e; exact hS _ (.inr (.inl rfl))), h.bv.kept q (fun b o e => by cases e; exact hS _ (.inr (.inr rfl))), (q.cell (p := ⟨sb, 3, none⟩) (h.lt sb (.inl rfl)) (hS sb (.inl rfl))).trans h.c3, fun b hb => Nat.lt_of_lt_of_le (h.lt b hb) q.size⟩
theorem PSt.keep (h : PSt W0 ub m n bt bu sb kx vx fl k v P1 P2 w0) (q : Kept (fun _ => False) w0 w1) : PSt W0 ub m n bt bu sb kx vx fl k v P1 P2 w1 := by
  obtain ⟨F1, F2, hk, hn⟩ := h.ex
  exact h.change q (fun _ _ e => e) ⟨F1, F2, hk.keep q, hn⟩
theorem PSt.box (h : PSt W0 ub m n bt bu sb kx vx fl k v P1 P2 w0) : w0.cell? ⟨ub, 0, none⟩ = some (.pointer (some ⟨bu, 0, none⟩)) := by
  obtain ⟨F1, F2, hk, hn⟩ := h.ex
  exact hk.box.cell
theorem pst_upd1 (h : PSt W0 ub m n bt bu sb kx vx fl k v P1 P2 w0) (q : Kept (fun _ => False) w0 w1) :
    Calls Tryz.prog 31 #[.pointer (some ⟨bt, 0, none⟩), .slice (some ⟨kx, 0, none⟩) k.size c, .slice (some ⟨vx, 0, none⟩) v.size vc, .int .i64 fl] w1 fun e w' => e = .returned (.int .i64 (codeP m k v fl P1)) ∧ (w'.cell? ⟨sb, 3, none⟩ = some (.int .i64 fl) ∧ w'.cell? ⟨ub, 0, none⟩ = some (.pointer (some ⟨bu, 0, none⟩))) ∧ PSt W0 ub m n bt bu sb kx vx fl k v (updP m k v fl P1) P2 w' := by
  obtain ⟨F1, F2, hk, hn⟩ := h.ex
  have h1 := h.keep q
  refine (kst_upd1 (c := c) (vc := vc) (fl := fl) hk q h1.bk h1.bv (fun b o e => by cases e; exact .inl (hn _ (.inr (.inr rfl))).1)).mono ?_
  rintro e w' ⟨rfl, ⟨F', hs, hF⟩, kk⟩
  have h2 : PSt W0 ub m n bt bu sb kx vx fl k v (updP m k v fl P1) P2 w' := h1.change kk (fun b hb => (hn b hb).1) ⟨F', F2, hs, fun b hb => ⟨fun e => (hF b e).elim (hn b hb).1 (fun e => by have := h.lt b hb; omega), (hn b hb).2⟩⟩
  exact ⟨rfl, ⟨h2.c3, h2.box⟩, h2⟩
theorem pst_upd2 (h : PSt W0 ub m n bt bu sb kx vx fl k v P1 P2 w0) (q : Kept (fun _ => False) w0 w1) :
    Calls Tryz.prog 31 #[.pointer (some ⟨bu, 0, none⟩), .slice (some ⟨kx, 0, none⟩) k.size c, .slice (some ⟨vx, 0, none⟩) v.size vc, .int .i64 fl] w1 fun e w' => e = .returned (.int .i64 (codeP n k v fl P2)) ∧ (w'.cell? ⟨sb, 3, none⟩ = some (.int .i64 fl) ∧ w'.cell? ⟨ub, 0, none⟩ = some (.pointer (some ⟨bu, 0, none⟩))) ∧ PSt W0 ub m n bt bu sb kx vx fl k v P1 (updP n k v fl P2) w' := by
  obtain ⟨F1, F2, hk, hn⟩ := h.ex
  have h1 := h.keep q
  refine (kst_upd2 (c := c) (vc := vc) (fl := fl) hk q h1.bk h1.bv (fun b o e => by cases e; exact .inl (hn _ (.inr (.inr rfl))).2)).mono ?_
  rintro e w' ⟨rfl, ⟨F', hs, hF⟩, kk⟩
  have h2 : PSt W0 ub m n bt bu sb kx vx fl k v P1 (updP n k v fl P2) w' := h1.change kk (fun b hb => (hn b hb).2) ⟨F1, F', hs, fun b hb => ⟨(hn b hb).1, fun e => (hF b e).elim (hn b hb).2 (fun e => by have := h.lt b hb; omega)⟩⟩
  exact ⟨rfl, ⟨h2.c3, h2.box⟩, h2⟩
theorem pst_del1 (h : PSt W0 ub m n bt bu sb kx vx fl k v P1 P2 w0) (q : Kept (fun _ => False) w0 w1) :
    Calls Tryz.prog 30 #[.pointer (some ⟨bt, 0, none⟩), .slice (some ⟨kx, 0, none⟩) k.size c] w1 fun e w' => e = .returned (.int .i64 (delCP m k P1)) ∧ w'.cell? ⟨ub, 0, none⟩ = some (.pointer (some ⟨bu, 0, none⟩)) ∧ PSt W0 ub m n bt bu sb kx vx fl k v (delP m k P1) P2 w' := by
  obtain ⟨F1, F2, hk, hn⟩ := h.ex
  have h1 := h.keep q
  refine (kst_del1 (c := c) hk q h1.bk).mono ?_
  rintro e w' ⟨rfl, hs, kk⟩
  have h2 : PSt W0 ub m n bt bu sb kx vx fl k v (delP m k P1) P2 w' := h1.change kk (fun b hb => (hn b hb).1) ⟨F1, F2, hs, hn⟩
  exact ⟨rfl, h2.box, h2⟩
theorem pst_del2 (h : PSt W0 ub m n bt bu sb kx vx fl k v P1 P2 w0) (q : Kept (fun _ => False) w0 w1) :
    Calls Tryz.prog 30 #[.pointer (some ⟨bu, 0, none⟩), .slice (some ⟨kx, 0, none⟩) k.size c] w1 fun e w' => e = .returned (.int .i64 (delCP n k P2)) ∧ w'.cell? ⟨ub, 0, none⟩ = some (.pointer (some ⟨bu, 0, none⟩)) ∧ PSt W0 ub m n bt bu sb kx vx fl k v P1 (delP n k P2) w' := by
  obtain ⟨F1, F2, hk, hn⟩ := h.ex
  have h1 := h.keep q
  refine (kst_del2 (c := c) hk q h1.bk).mono ?_
  rintro e w' ⟨rfl, hs, kk⟩
  have h2 : PSt W0 ub m n bt bu sb kx vx fl k v P1 (delP n k P2) w' := h1.change kk (fun b hb => (hn b hb).2) ⟨F1, F2, hs, hn⟩
  exact ⟨rfl, h2.box, h2⟩
theorem pst_len1 (h : PSt W0 ub m n bt bu sb kx vx fl k v P1 P2 w0) (q : Kept (fun _ => False) w0 w1) :
    Calls Tryz.prog 20 #[.pointer (some ⟨bt, 0, none⟩)] w1 fun e w' => e = .returned (.int .i64 (P1.length : Nat)) ∧ w'.cell? ⟨ub, 0, none⟩ = some (.pointer (some ⟨bu, 0, none⟩)) ∧ Kept (fun _ => False) w0 w' := by
  have h1 := h.keep q
  obtain ⟨F1, F2, hk, hn⟩ := h1.ex
  refine (ses_len hk.a).mono ?_
  rintro e w' ⟨rfl, kk⟩
  exact ⟨rfl, (h1.keep kk).box, q.trans kk (fun _ _ e => e)⟩
theorem pst_len2 (h : PSt W0 ub m n bt bu sb kx vx fl k v P1 P2 w0) (q : Kept (fun _ => False) w0 w1) :
    Calls Tryz.prog 20 #[.pointer (some ⟨bu, 0, none⟩)] w1 fun e w' => e = .returned (.int .i64 (P2.length : Nat)) ∧ w'.cell? ⟨ub, 0, none⟩ = some (.pointer (some ⟨bu, 0, none⟩)) ∧ Kept (fun _ => False) w0 w' := by
  have h1 := h.keep q
  obtain ⟨F1, F2, hk, hn⟩ := h1.ex
  refine (ses_len hk.b).mono ?_
  rintro e w' ⟨rfl, kk⟩
  exact ⟨rfl, (h1.keep kk).box, q.trans kk (fun _ _ e => e)⟩
/-- An entry that a Lookup handed out, or none. -/
structure EnV (w : World) (k : ByteArray) (o : Option ByteArray) (x : Value) (F : Nat → Prop) : Prop where
  none' : o = none → x = .pointer none
  some' : ∀ d, o = some d → ∃ b e c, x = .pointer (some ⟨b, 0, none⟩) ∧ w.cell? ⟨b, 0, none⟩ = some (.string k) ∧ w.cell? ⟨b, 1, none⟩ = some (.slice (some ⟨e, 0, none⟩) d.size c) ∧ BytesAt w (some ⟨e, 0, none⟩) d.size d ∧ F b ∧ F e ∧ b < w.heap.size
theorem Found.env {F : Nat → Prop} {o : Option ByteArray} {x : Value} (h : Found w F k o x) : EnV w k o x F := by
  cases o with
  | none => exact ⟨fun _ => h, fun d e => by cases e⟩
  | some d =>
    obtain ⟨y, rfl, he, rfl, rfl, -, hb, hd⟩ := h
    exact ⟨fun e => (by cases e), fun d e => by cases e; exact ⟨_, _, _, rfl, he.key, he.sl, he.data, hb, hd, he.row.lt⟩⟩
theorem EnV.kept {F S : Nat → Prop} {o : Option ByteArray} {x : Value} (h : EnV w k o x F) (q : Kept S w w1) (hS : ∀ b, F b → ¬ S b) : EnV w1 k o x F :=
  ⟨h.none', fun d e => by
    obtain ⟨b, e, c, h1, h2, h3, h4, h5, h6, h7⟩ := h.some' d e
    exact ⟨b, e, c, h1, (q.cell (p := ⟨b, 0, none⟩) h7 (hS b h5)).trans h2, (q.cell (p := ⟨b, 1, none⟩) h7 (hS b h5)).trans h3, h4.kept q (fun b' o' e' => by cases e'; exact hS _ h6), h5, h6, Nat.lt_of_lt_of_le h7 q.size⟩⟩
/-- Both tables looked up. -/
theorem pst_look1 (h : PSt W0 ub m n bt bu sb kx vx fl k v P1 P2 w0) (q : Kept (fun _ => False) w0 w1) :
    Calls Tryz.prog 22 #[.pointer (some ⟨bt, 0, none⟩), .slice (some ⟨kx, 0, none⟩) k.size c] w1 fun e w' => ∃ x, e = .returned (.tuple #[x, .bool (lookP k P1).isSome]) ∧ PSt W0 ub m n bt bu sb kx vx fl k v (useP m k P1) P2 w' ∧
      ∀ w1', Kept (fun _ => False) w' w1' → Calls Tryz.prog 22 #[.pointer (some ⟨bu, 0, none⟩), .slice (some ⟨kx, 0, none⟩) k.size c] w1' fun e w'' => ∃ y, e = .returned (.tuple #[y, .bool (lookP k P2).isSome]) ∧ PSt W0 ub m n bt bu sb kx vx fl k v (useP m k P1) (useP n k P2) w'' ∧ (∃ F, EnV w'' k (lookP k P1) x F) ∧ ∃ F, EnV w'' k (lookP k P2) y F := by
  obtain ⟨F1, F2, hk, hn⟩ := h.ex
  have h1 := h.keep q
  refine (kst_look1 (c := c) hk q h1.bk).mono ?_
  rintro e w' ⟨x, rfl, hs, hf, kk⟩
  have h2 : PSt W0 ub m n bt bu sb kx vx fl k v (useP m k P1) P2 w' := h1.change kk (fun b hb => (hn b hb).1) ⟨F1, F2, hs, hn⟩
  refine ⟨x, rfl, h2, fun w1' q2 => ?_⟩
  have h3 := h2.keep q2
  refine (kst_look2 (c := c) hs q2 h3.bk).mono ?_
  rintro e w'' ⟨y, rfl, hs2, hf2, kk2⟩
  exact ⟨y, rfl, h3.change kk2 (fun b hb => (hn b hb).2) ⟨F1, F2, hs2, hn⟩, ⟨F1, (hf.env.kept q2 (fun _ _ e => e)).kept kk2 (fun b e => hs.dis b e)⟩, ⟨F2, hf2.env⟩⟩
end
end Go.Proofs.YtdkcnigghcbnpaaGreat
