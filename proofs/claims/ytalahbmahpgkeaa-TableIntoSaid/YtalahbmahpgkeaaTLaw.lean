/- Tables, the plain law: entries that are looked up, used, let go; a list's entries beside the table's. -/
import Derived.Test.YtalahbmahpgkeaaKinds
import Derived.Test.YtalahbmahpgkeaaNumK
namespace Go.Proofs.Ytalahbmahpgkeaa
set_option linter.unusedVariables false
set_option linter.unusedSimpArgs false
open Go.RowKit Go.MapKept

theorem flat_sub {L E : List En} (h : L.Sublist E) : (L.flatMap fun x => [x.b, x.d]).Sublist (E.flatMap fun x => [x.b, x.d]) := by
  induction h with
  | slnil => exact .refl _
  | cons a _ ih =>
    rw [List.flatMap_cons]
    exact ih.trans (List.sublist_append_right _ _)
  | cons_cons a _ ih =>
    rw [List.flatMap_cons, List.flatMap_cons]
    exact List.Sublist.append (.refl _) ih

section
variable {W W' : World} {bt : Nat} {m : TM} {iv : Value} {E E' : List En} {F F' : Nat → Prop}

/-- What a call makes of a table: entries that were there, or are new. -/
theorem Tb.step (h : Tb W bt m iv E F) {S : Nat → Prop} (q : Kept S W W') (hS : ∀ b, S b → F b) (hk : KindAt W' m iv E' F') (hF : ∀ b, F' b → F b ∨ W.heap.size ≤ b)
    (hmem : ∀ x ∈ E', x ∈ E ∨ (W.heap.size ≤ x.b ∧ W.heap.size ≤ x.d ∧ EnAt W' x ∧ (x.key.size : Int) = m.ks ∧ (x.data.size : Int) = m.vs ∧ ∀ b, F' b → b ≠ x.b ∧ b ≠ x.d))
    (hkeys : (E'.map (·.key)).Nodup) (hblocks : (E'.flatMap fun x => [x.b, x.d]).Nodup) (hlen : (E'.length : Int) ≤ m.mx) (harr : m.kd = 1 → E'.map (·.key) = (List.range m.mx.toNat).map numK) : Tb W' bt m iv E' F' := by
  have hbS : ¬ S bt := fun e => (h.apart bt (hS bt e)).1 rfl
  have hl := h.row.lt
  have hxS : ∀ x ∈ E, ¬ S x.b ∧ ¬ S x.d := fun x hx => ⟨fun e => ((h.apart x.b (hS _ e)).2 x hx).1 rfl, fun e => ((h.apart x.d (hS _ e)).2 x hx).2 rfl⟩
  refine ⟨h.right, h.row.kept q hbS, (q.cell (p := ⟨bt, 0, none⟩) hl hbS).trans h.c0, (q.cell (p := ⟨bt, 1, none⟩) hl hbS).trans h.c1, (q.cell (p := ⟨bt, 2, none⟩) hl hbS).trans h.c2, (q.cell (p := ⟨bt, 3, none⟩) hl hbS).trans h.c3,
    (q.cell (p := ⟨bt, 4, none⟩) hl hbS).trans h.c4, (q.cell (p := ⟨bt, 5, none⟩) hl hbS).trans h.c5, hk, ?_, ?_, hkeys, hblocks, ?_, ?_, hlen, harr⟩
  · intro x hx
    rcases hmem x hx with hx | ⟨_, _, he, _⟩
    · exact (h.en x hx).kept q (hxS x hx).1 (hxS x hx).2
    · exact he
  · intro x hx
    rcases hmem x hx with hx | ⟨_, _, _, h1, h2, _⟩
    · exact h.size x hx
    · exact ⟨h1, h2⟩
  · intro b hb
    refine ⟨?_, fun x hx => ?_⟩
    · rcases hF b hb with e | e
      · exact (h.apart b e).1
      · omega
    · rcases hmem x hx with hx | ⟨_, _, _, _, _, hn⟩
      · rcases hF b hb with e | e
        · exact (h.apart b e).2 x hx
        · have h1 := (h.en x hx).row.lt
          have h2 := (h.en x hx).drow.lt
          omega
      · exact hn b hb
  · intro x hx
    rcases hmem x hx with hx | ⟨h1, h2, _⟩
    · exact h.own x hx
    · omega

/-- Entries that were there, in whatever order. -/
theorem Tb.turn (h : Tb W bt m iv E F) {S : Nat → Prop} (q : Kept S W W') (hS : ∀ b, S b → F b) (hk : KindAt W' m iv E' F') (hF : ∀ b, F' b → F b ∨ W.heap.size ≤ b) {L : List En} (hp : E'.Perm L) (hs : L.Sublist E) (harr : m.kd = 1 → E' = E) : Tb W' bt m iv E' F' := by
  refine h.step q hS hk hF (fun x hx => .inl (hs.subset (hp.subset hx))) ?_ ?_ ?_ (fun e => by rw [harr e]; exact h.arr e)
  · exact ((hp.map _).nodup_iff).2 (h.keys.sublist (hs.map _))
  · exact ((hp.flatMap_right _).nodup_iff).2 (h.blocks.sublist (flat_sub hs))
  · have h1 := hp.length_eq
    have h2 := hs.length_le
    have := h.len
    omega

def lookT (k : ByteArray) (E : List En) : Option En := E.find? fun x => decide (x.key = k)
def dropT (k : ByteArray) (E : List En) : List En := E.filter fun x => decide (x.key ≠ k)
def useT (m : TM) (k : ByteArray) (E : List En) : List En := if m.kd = 3 then (match lookT k E with | some x => dropT k E ++ [x] | none => E) else E
def enV (o : Option En) : Value := match o with | none => .pointer none | some x => .pointer (some ⟨x.b, 0, none⟩)

theorem lookT_wrong (h : Tb W bt m iv E F) {k : ByteArray} (hk : (k.size : Int) ≠ m.ks) : lookT k E = none := by
  refine List.find?_eq_none.2 fun x hx => ?_
  have := (h.size x hx).1
  simp only [decide_eq_true_eq]
  rintro rfl
  exact hk this
theorem lookT_some {k : ByteArray} {x : En} (h : lookT k E = some x) : x ∈ E ∧ x.key = k := by
  unfold lookT at h
  exact ⟨List.mem_of_find?_eq_some h, by simpa using List.find?_some h⟩
theorem lookT_none {k : ByteArray} (h : lookT k E = none) : ∀ x ∈ E, x.key ≠ k := by
  unfold lookT at h
  simpa using h
theorem split_en (hn : (E.map (·.key)).Nodup) (k : ByteArray) :
    (lookT k E = none ∧ (∀ x ∈ E, x.key ≠ k) ∧ dropT k E = E) ∨ ∃ l1 x l2, E = l1 ++ x :: l2 ∧ x.key = k ∧ lookT k E = some x ∧ dropT k E = l1 ++ l2 := by
  unfold lookT dropT
  by_cases h : ∃ x ∈ E, x.key = k
  · obtain ⟨x, hx, e⟩ := h
    obtain ⟨l1, l2, rfl⟩ := List.append_of_mem hx
    have h1 : ∀ y ∈ l1, y.key ≠ k := by
      intro y hy e'
      have : y.key ∈ l1.map (·.key) := List.mem_map_of_mem hy
      simp only [List.map_append, List.map_cons] at hn
      grind
    have h2 : ∀ y ∈ l2, y.key ≠ k := by
      intro y hy e'
      have : y.key ∈ l2.map (·.key) := List.mem_map_of_mem hy
      simp only [List.map_append, List.map_cons] at hn
      grind
    refine .inr ⟨l1, x, l2, rfl, e, ?_, ?_⟩
    · rw [List.find?_append, List.find?_eq_none.2 (by simpa using h1)]
      simp [e]
    · rw [List.filter_append, List.filter_cons_of_neg (by simp [e]), List.filter_eq_self.2 (by simpa using h1), List.filter_eq_self.2 (by simpa using h2)]
  · have h' : ∀ x ∈ E, x.key ≠ k := fun x hx e => h ⟨x, hx, e⟩
    exact .inl ⟨List.find?_eq_none.2 (by simpa using h'), h', List.filter_eq_self.2 (by simpa using h')⟩
theorem useT_perm (h : (E.map (·.key)).Nodup) (m : TM) (k : ByteArray) : (useT m k E).Perm E := by
  unfold useT
  split
  · rcases split_en h k with ⟨e1, _, _⟩ | ⟨l1, x, l2, rfl, _, e1, e2⟩
    · rw [e1]
    · rw [e1, e2]
      show (l1 ++ l2 ++ [x]).Perm (l1 ++ x :: l2)
      rw [List.append_assoc]
      exact (List.Perm.append_left _ (List.perm_append_singleton x l2))
  · exact .refl _

/-! ### A list's entries beside the table's -/
abbrev Pairs (ls : List (Ent ByteArray Nat)) (E : List En) : Prop := ls.map (fun x => (x.k, x.v)) = E.map (fun x => (x.key, x.b))
theorem pairs_look {ls : List (Ent ByteArray Nat)} (h : Pairs ls E) (k : ByteArray) : (lookE k ls).map (fun x => (x.k, x.v)) = (lookT k E).map (fun x => (x.key, x.b)) := by
  have h1 : (lookE k ls).map (fun x => (x.k, x.v)) = (ls.map (fun x => (x.k, x.v))).find? fun p => decide (p.1 = k) := by rw [List.find?_map]; rfl
  have h2 : (lookT k E).map (fun x => (x.key, x.b)) = (E.map (fun x => (x.key, x.b))).find? fun p => decide (p.1 = k) := by rw [List.find?_map]; rfl
  rw [h1, h2, h]
theorem pairs_val {ls : List (Ent ByteArray Nat)} (h : Pairs ls E) (k : ByteArray) : SE.vv (lookE k ls) = enV (lookT k E) := by
  have := pairs_look h k
  cases h1 : lookE k ls with
  | none =>
    cases h2 : lookT k E with
    | none => rfl
    | some y => rw [h1, h2] at this; cases this
  | some x =>
    cases h2 : lookT k E with
    | none => rw [h1, h2] at this; cases this
    | some y =>
      rw [h1, h2] at this
      simp only [Option.map_some, Option.some.injEq, Prod.mk.injEq] at this
      simp only [SE.vv, enV, vSE, this.2]
theorem pairs_drop {ls : List (Ent ByteArray Nat)} (h : Pairs ls E) (k : ByteArray) : Pairs (dropE k ls) (dropT k E) := by
  have h1 : (dropE k ls).map (fun x => (x.k, x.v)) = (ls.map (fun x => (x.k, x.v))).filter fun p => decide (p.1 ≠ k) := by rw [List.filter_map]; rfl
  have h2 : (dropT k E).map (fun x => (x.key, x.b)) = (E.map (fun x => (x.key, x.b))).filter fun p => decide (p.1 ≠ k) := by rw [List.filter_map]; rfl
  unfold Pairs
  rw [h1, h2, h]
theorem pairs_len {ls : List (Ent ByteArray Nat)} (h : Pairs ls E) : ls.length = E.length := by simpa using congrArg List.length h
theorem pairs_use {ls : List (Ent ByteArray Nat)} (h : Pairs ls E) (k : ByteArray) (hm : m.kd = 3) : Pairs (useE k ls) (useT m k E) := by
  have hl := pairs_look h k
  have hd := pairs_drop h k
  unfold Pairs useE useT at *
  rw [if_pos hm]
  cases h1 : lookE k ls with
  | none =>
    cases h2 : lookT k E with
    | none => exact h
    | some y => rw [h1, h2] at hl; cases hl
  | some x =>
    cases h2 : lookT k E with
    | none => rw [h1, h2] at hl; cases hl
    | some y =>
      rw [h1, h2] at hl
      simp only [Option.map_some, Option.some.injEq] at hl
      simp only [List.map_append, List.map_cons, List.map_nil, hd, hl]
end
end Go.Proofs.Ytalahbmahpgkeaa
