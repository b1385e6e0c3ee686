/- What stands under the walks, part A. -/
import Derived.WalkKit
import Derived.WalkSpells
import Derived.Deep.QuietTactic
import Derived.BigQuiet
/- Plain facts on memory: what a world keeps outside of some blocks; rows of cells; a ring of links that know each other. No program is named here. -/
namespace Go.Proofs.YtdkcnigghcbnpaaGreat
set_option linter.unusedVariables false
set_option linter.unusedSimpArgs false
open Go.RowKit

/-- Outside of the blocks S the world w' is as w was; blocks may have come. -/
structure Kept (S : Nat → Prop) (w w' : World) : Prop where
  os : w'.os = w.os
  tape : w'.tape = w.tape
  output : w'.output = w.output
  size : w.heap.size ≤ w'.heap.size
  block : ∀ k, k < w.heap.size → ¬ S k → w'.heap[k]? = w.heap[k]?

theorem Kept.refl (S : Nat → Prop) (w : World) : Kept S w w := ⟨rfl, rfl, rfl, Nat.le_refl _, fun _ _ _ => rfl⟩
theorem Kept.trans {S S' : Nat → Prop} {a b c : World} (h : Kept S a b) (k : Kept S' b c) (hS : ∀ k, k < a.heap.size → S' k → S k) : Kept S a c :=
  ⟨k.os.trans h.os, k.tape.trans h.tape, k.output.trans h.output, Nat.le_trans h.size k.size,
   fun i hi hn => (k.block i (Nat.lt_of_lt_of_le hi h.size) (fun hs => hn (hS i hi hs))).trans (h.block i hi hn)⟩
theorem Kept.mono {S S' : Nat → Prop} {w w' : World} (h : Kept S w w') (hS : ∀ k, k < w.heap.size → S k → S' k) : Kept S' w w' :=
  ⟨h.os, h.tape, h.output, h.size, fun k hk hn => h.block k hk (fun hs => hn (hS k hk hs))⟩
theorem Kept.drew {S : Nat → Prop} {a w : World} (h : Kept S a w) : Kept S a w.drew := ⟨h.os, h.tape, h.output, h.size, h.block⟩
theorem Kept.drewN {S : Nat → Prop} {a w : World} (h : Kept S a w) (n : Nat) : Kept S a (w.drewN n) := ⟨h.os, h.tape, h.output, h.size, h.block⟩
/-- w' is w but for the count of draws. -/
structure Twin (w' w : World) : Prop where
  heap : w'.heap = w.heap
  os : w'.os = w.os
  output : w'.output = w.output
  tape : w'.tape = w.tape
theorem Twin.refl (w : World) : Twin w w := ⟨rfl, rfl, rfl, rfl⟩
/-- A world with another count of draws. -/
def World.drawnAt (w : World) (n : Nat) : World := { w with drawn := n }
theorem Twin.eq {w' w : World} (h : Twin w' w) : ∃ n, w' = World.drawnAt w n := by
  obtain ⟨h1, h2, h3, h4⟩ := h
  cases w'; cases w
  simp only at h1 h2 h3 h4
  subst h1; subst h2; subst h3; subst h4
  exact ⟨_, rfl⟩
theorem Kept.twin {S : Nat → Prop} {a w w' : World} (h : Kept S a w) (t : Twin w' w) : Kept S a w' :=
  ⟨t.os.trans h.os, t.tape.trans h.tape, t.output.trans h.output, by rw [t.heap]; exact h.size, fun k hk hn => by rw [t.heap]; exact h.block k hk hn⟩
theorem twin_drewN (w : World) (n : Nat) : Twin (w.drewN n) w := ⟨rfl, rfl, rfl, rfl⟩
theorem twin_drew (w : World) : Twin w.drew w := ⟨rfl, rfl, rfl, rfl⟩
theorem Kept.one_set (w : World) (a : Addr) (v : Value) : Kept (fun b => b = a.block) w (w.setCell a v) :=
  ⟨rfl, rfl, rfl, by simp [World.setCell], fun k _ hn => Below.heap_setCell _ _ _ _ hn⟩
theorem Kept.one_alloc (w : World) (o : Obj) : Kept (fun _ => False) w (w.alloc o) :=
  ⟨rfl, rfl, rfl, by simp, fun k hk _ => Below.heap_alloc _ _ _ hk⟩
theorem Kept.setCell {S : Nat → Prop} {a w : World} (h : Kept S a w) (p : Addr) (v : Value) (hp : p.block < a.heap.size → S p.block) : Kept S a (w.setCell p v) :=
  h.trans (Kept.one_set w p v) (fun k hk e => by subst e; exact hp hk)
theorem Kept.alloc {S : Nat → Prop} {a w : World} (h : Kept S a w) (o : Obj) : Kept S a (w.alloc o) :=
  h.trans (Kept.one_alloc w o) (fun _ _ e => e.elim)
theorem Kept.cell {S : Nat → Prop} {w w' : World} (h : Kept S w w') {p : Addr} (hp : p.block < w.heap.size) (hn : ¬ S p.block) : w'.cell? p = w.cell? p :=
  World.cell?_of_block (w := w) (h.block p.block hp hn)
theorem Kept.frozen {S : Nat → Prop} {w w' : World} (h : Kept S w w') {p : Addr} (hp : p.block < w.heap.size) (hn : ¬ S p.block) : w'.frozen? p = w.frozen? p :=
  World.frozen?_of_block (w := w) (h.block p.block hp hn)
theorem Kept.below {S : Nat → Prop} {w w' : World} (h : Kept S w w') {B : Nat} (hB : B ≤ w.heap.size) (hS : ∀ k, k < B → ¬ S k) : Below B w w' :=
  ⟨h.os, h.tape, h.output, h.size, fun k hk => h.block k (Nat.lt_of_lt_of_le hk hB) (hS k hk)⟩
theorem Kept.of_below {B : Nat} {w w' : World} (h : Below B w w') : Kept (fun k => B ≤ k) w w' :=
  ⟨h.os, h.tape, h.output, h.size, fun k _ hn => h.block k (by omega)⟩
theorem Kept.of_grown {w w' : World} {row : Option Nat} (h : w.grownBy w' row) : Kept (fun k => row = some k) w w' :=
  ⟨h.os, h.tape, h.output, h.size, fun k hk hn => h.block k hk (fun e => hn e.symm)⟩

/-- Block b is a row of n cells, none of them frozen. -/
def RowAt (w : World) (b n : Nat) : Prop := ∃ c t, w.heap[b]? = some (.cells c t (0, 0)) ∧ c.size = n

theorem RowAt.lt {w : World} {b n : Nat} (h : RowAt w b n) : b < w.heap.size := by
  obtain ⟨c, t, h, _⟩ := h
  exact (Array.getElem?_eq_some_iff.1 h).1
theorem RowAt.of_block {w w' : World} {b n : Nat} (h : RowAt w b n) (e : w'.heap[b]? = w.heap[b]?) : RowAt w' b n := by
  obtain ⟨c, t, h, hn⟩ := h
  exact ⟨c, t, e.trans h, hn⟩
theorem RowAt.kept {S : Nat → Prop} {w w' : World} {b n : Nat} (h : RowAt w b n) (k : Kept S w w') (hn : ¬ S b) : RowAt w' b n :=
  h.of_block (k.block b h.lt hn)
theorem RowAt.setCell {w : World} {b n : Nat} (h : RowAt w b n) (a : Addr) (v : Value) : RowAt (w.setCell a v) b n := by
  obtain ⟨c, t, h, hn⟩ := h
  by_cases e : a.block = b
  · refine ⟨if a.spot.isSome then c else c.setIfInBounds a.off v, t, ?_, ?_⟩
    · simp only [World.setCell, Array.getElem?_modify, e, if_true, h, Option.map_some]
    · split <;> simp_all
  · exact ⟨c, t, (Below.heap_setCell _ _ _ _ (fun h => e h.symm)).trans h, hn⟩
theorem RowAt.drew {w : World} {b n : Nat} (h : RowAt w b n) : RowAt w.drew b n := h
theorem RowAt.frozen {w : World} {b n : Nat} (h : RowAt w b n) (o : Nat) : w.frozen? ⟨b, o, none⟩ = false := by
  obtain ⟨c, t, h, _⟩ := h
  simp [World.frozen?, h]
theorem RowAt.some {w : World} {b n : Nat} (h : RowAt w b n) {o : Nat} (ho : o < n) : ∃ v, w.cell? ⟨b, o, none⟩ = some v := by
  obtain ⟨c, t, h, hn⟩ := h
  exact ⟨c[o]'(by omega), by simp [World.cell?, h]⟩
theorem RowAt.isSome {w : World} {b n : Nat} (h : RowAt w b n) {o : Nat} (ho : o < n) : (w.cell? ⟨b, o, none⟩).isSome = true := by
  obtain ⟨v, e⟩ := h.some ho
  simp [e]
theorem RowAt.new (w : World) (c : Array Value) (t : TypeId) : RowAt (w.alloc (.cells c t)) w.heap.size c.size :=
  ⟨c, t, heap_alloc_new w _, rfl⟩

theorem cell_set_same {w : World} {b o n : Nat} (h : RowAt w b n) (ho : o < n) (v : Value) : (w.setCell ⟨b, o, none⟩ v).cell? ⟨b, o, none⟩ = some v :=
  World.cell?_setCell_same' _ _ _ (h.isSome ho)
theorem cell_set_other {w : World} {b o b' o' : Nat} (v : Value) (h : ¬ (b = b' ∧ o = o')) : (w.setCell ⟨b, o, none⟩ v).cell? ⟨b', o', none⟩ = w.cell? ⟨b', o', none⟩ :=
  World.cell?_setCell_other _ _ _ _ (fun e => h (by simpa using e))

/-! ## A ring of links: a link lies at (block, offset); its prev is the cell + 2, its next the cell + 3. -/
abbrev Spot := Nat × Nat
def ptr (a : Spot) : Value := .pointer (some ⟨a.1, a.2, none⟩)
def nx (w : World) (a : Spot) : Option Value := w.cell? ⟨a.1, a.2 + 3, none⟩
def pv (w : World) (a : Spot) : Option Value := w.cell? ⟨a.1, a.2 + 2, none⟩
def edges (s : Spot) (l : List Spot) : List (Spot × Spot) := (s :: l).zip (l ++ [s])
def Linked (w : World) (s : Spot) (l : List Spot) : Prop := ∀ e ∈ edges s l, nx w e.1 = some (ptr e.2) ∧ pv w e.2 = some (ptr e.1)
/-- The one ahead, the one behind. -/
def ahead (s : Spot) (l1 : List Spot) : Spot := (s :: l1).getLast (by simp)
def behind (s : Spot) (l2 : List Spot) : Spot := (l2 ++ [s]).head (by simp)

theorem split_last (s : Spot) (l1 : List Spot) : ∃ A, s :: l1 = A ++ [ahead s l1] ∧ A.length = l1.length := by
  refine ⟨(s :: l1).dropLast, (List.dropLast_concat_getLast (by simp)).symm, by simp⟩
theorem split_head (s : Spot) (l2 : List Spot) : ∃ B, l2 ++ [s] = behind s l2 :: B ∧ B.length = l2.length := by
  refine ⟨(l2 ++ [s]).tail, (List.cons_head_tail (by simp)).symm, by simp⟩

theorem edges_split (s x : Spot) (l1 l2 A B : List Spot) (p n : Spot) (hA : s :: l1 = A ++ [p]) (lA : A.length = l1.length) (hB : l2 ++ [s] = n :: B) (lB : B.length = l2.length) :
    edges s (l1 ++ x :: l2) = A.zip l1 ++ (p, x) :: (x, n) :: l2.zip B ∧ edges s (l1 ++ l2) = A.zip l1 ++ (p, n) :: l2.zip B := by
  constructor
  · have e1 : s :: (l1 ++ x :: l2) = A ++ (p :: x :: l2) := by rw [← List.cons_append, hA]; simp
    have e2 : (l1 ++ x :: l2) ++ [s] = l1 ++ (x :: n :: B) := by simp [hB]
    rw [edges, e1, e2, List.zip_append lA]
    rfl
  · have e1 : s :: (l1 ++ l2) = A ++ (p :: l2) := by rw [← List.cons_append, hA]; simp
    have e2 : (l1 ++ l2) ++ [s] = l1 ++ (n :: B) := by simp [hB]
    rw [edges, e1, e2, List.zip_append lA]
    rfl

theorem edges_mem (s : Spot) (l : List Spot) (e : Spot × Spot) (h : e ∈ edges s l) : e.1 ∈ s :: l ∧ e.2 ∈ s :: l := by
  have h1 := List.of_mem_zip (a := e.1) (b := e.2) h
  refine ⟨h1.1, ?_⟩
  have := h1.2
  grind

/-- The links of a ring lie in unlike blocks, of rows that are long enough. -/
structure Laid (w : World) (l : List Spot) : Prop where
  nodup : (l.map (·.1)).Nodup
  row : ∀ a ∈ l, ∃ n, a.2 + 4 ≤ n ∧ RowAt w a.1 n

theorem Laid.one {w : World} {l : List Spot} (h : Laid w l) {a b : Spot} (ha : a ∈ l) (hb : b ∈ l) (e : a.1 = b.1) : a = b := by
  have hn := h.nodup
  revert ha hb hn
  clear h
  induction l with
  | nil => simp
  | cons c l ih =>
    intro ha hb hn
    simp only [List.map_cons, List.nodup_cons, List.mem_map] at hn
    rcases List.mem_cons.1 ha with h1 | h1
    · rcases List.mem_cons.1 hb with h2 | h2
      · rw [h1, h2]
      · exact (hn.1 ⟨b, h2, by rw [← e, h1]⟩).elim
    · rcases List.mem_cons.1 hb with h2 | h2
      · exact (hn.1 ⟨a, h1, by rw [e, h2]⟩).elim
      · exact ih h1 h2 hn.2

theorem Laid.setCell {w : World} {l : List Spot} (h : Laid w l) (a : Addr) (v : Value) : Laid (w.setCell a v) l :=
  ⟨h.nodup, fun x hx => let ⟨n, hn, hr⟩ := h.row x hx; ⟨n, hn, hr.setCell a v⟩⟩
theorem Laid.sub {w : World} {l l' : List Spot} (h : Laid w l) (hs : l'.Sublist l) : Laid w l' :=
  ⟨(hs.map _).nodup h.nodup, fun a ha => h.row a (hs.subset ha)⟩

theorem nx_set_nx {w : World} {l : List Spot} (h : Laid w l) {a b : Spot} (ha : a ∈ l) (hb : b ∈ l) (v : Value) :
    nx (w.setCell ⟨a.1, a.2 + 3, none⟩ v) b = if a = b then some v else nx w b := by
  unfold nx
  by_cases e : a = b
  · subst e
    obtain ⟨n, hn, hr⟩ := h.row a ha
    rw [if_pos rfl, cell_set_same hr (by omega)]
  · rw [if_neg e, cell_set_other]
    rintro ⟨h1, _⟩
    exact e (h.one ha hb h1)
theorem pv_set_nx {w : World} {l : List Spot} (h : Laid w l) {a b : Spot} (ha : a ∈ l) (hb : b ∈ l) (v : Value) :
    pv (w.setCell ⟨a.1, a.2 + 3, none⟩ v) b = pv w b := by
  unfold pv
  rw [cell_set_other]
  rintro ⟨h1, h2⟩
  have := h.one ha hb h1
  subst this
  omega
theorem pv_set_pv {w : World} {l : List Spot} (h : Laid w l) {a b : Spot} (ha : a ∈ l) (hb : b ∈ l) (v : Value) :
    pv (w.setCell ⟨a.1, a.2 + 2, none⟩ v) b = if a = b then some v else pv w b := by
  unfold pv
  by_cases e : a = b
  · subst e
    obtain ⟨n, hn, hr⟩ := h.row a ha
    rw [if_pos rfl, cell_set_same hr (by omega)]
  · rw [if_neg e, cell_set_other]
    rintro ⟨h1, _⟩
    exact e (h.one ha hb h1)
theorem nx_set_pv {w : World} {l : List Spot} (h : Laid w l) {a b : Spot} (ha : a ∈ l) (hb : b ∈ l) (v : Value) :
    nx (w.setCell ⟨a.1, a.2 + 2, none⟩ v) b = nx w b := by
  unfold nx
  rw [cell_set_other]
  rintro ⟨h1, h2⟩
  have := h.one ha hb h1
  subst this
  omega

theorem Laid.spots {w : World} {l : List Spot} (h : Laid w l) : l.Nodup := by
  have := h.nodup
  exact List.Pairwise.of_map _ (fun a b hne e => hne (by rw [e])) this

/-- One is taken out of a ring: whoever stands ahead and whoever stands behind know each other. -/
theorem linked_out {w : World} {s x : Spot} {l1 l2 : List Spot} (hL : Linked w s (l1 ++ x :: l2)) (hd : Laid w (s :: (l1 ++ x :: l2))) :
    Linked ((w.setCell ⟨(ahead s l1).1, (ahead s l1).2 + 3, none⟩ (ptr (behind s l2))).setCell ⟨(behind s l2).1, (behind s l2).2 + 2, none⟩ (ptr (ahead s l1))) s (l1 ++ l2) := by
  obtain ⟨A, hA, lA⟩ := split_last s l1
  obtain ⟨B, hB, lB⟩ := split_head s l2
  generalize ahead s l1 = p at *
  generalize behind s l2 = n at *
  obtain ⟨e1, e2⟩ := edges_split s x l1 l2 A B p n hA lA hB lB
  have hnd := hd.spots
  have hp : p ∈ s :: l1 := by rw [hA]; simp
  have hn : n ∈ l2 ++ [s] := by rw [hB]; simp
  have hp' : p ∈ s :: (l1 ++ x :: l2) := by grind
  have hn' : n ∈ s :: (l1 ++ x :: l2) := by grind
  have hd1 := hd.setCell ⟨p.1, p.2 + 3, none⟩ (ptr n)
  have hnA : (A ++ [p]).Nodup := by rw [← hA]; exact hnd.sublist (by simp)
  have hnB : (n :: B).Nodup := by
    rw [← hB]
    have : (s :: l2).Nodup := hnd.sublist (by simp)
    grind
  have hdis : ∀ a, a ∈ l1 → a ∉ l2 ++ [s] := by
    grind
  have hdis2 : ∀ a, a ∈ l2 → a ∉ s :: l1 := by
    grind
  intro e he
  have hmem := edges_mem s _ e he
  have m1 : e.1 ∈ s :: (l1 ++ x :: l2) := by have := hmem.1; grind
  have m2 : e.2 ∈ s :: (l1 ++ x :: l2) := by have := hmem.2; grind
  rw [nx_set_pv hd1 hn' m1, nx_set_nx hd hp' m1, pv_set_pv hd1 hn' m2, pv_set_nx hd hp' m2]
  rw [e2] at he
  rcases List.mem_append.1 he with he | he
  · have hz := List.of_mem_zip (a := e.1) (b := e.2) he
    have n1 : p ≠ e.1 := fun h => by
      rw [List.nodup_append] at hnA
      exact hnA.2.2 _ hz.1 p (by simp) h.symm
    have n2 : n ≠ e.2 := fun h => hdis _ hz.2 (h ▸ hn)
    rw [if_neg n1, if_neg n2]
    exact hL e (by rw [e1]; exact List.mem_append_left _ he)
  · rcases List.mem_cons.1 he with rfl | he
    · simp
    · have hz := List.of_mem_zip (a := e.1) (b := e.2) he
      have n1 : p ≠ e.1 := fun h => hdis2 _ hz.1 (h ▸ hp)
      have n2 : n ≠ e.2 := fun h => by
        rw [List.nodup_cons] at hnB
        exact hnB.1 (h ▸ hz.2)
      rw [if_neg n1, if_neg n2]
      exact hL e (by rw [e1]; simp [he])

/-- What the links of one in a ring say. -/
theorem linked_at {w : World} {s x : Spot} {l1 l2 : List Spot} (hL : Linked w s (l1 ++ x :: l2)) :
    pv w x = some (ptr (ahead s l1)) ∧ nx w x = some (ptr (behind s l2)) := by
  obtain ⟨A, hA, lA⟩ := split_last s l1
  obtain ⟨B, hB, lB⟩ := split_head s l2
  obtain ⟨e1, _⟩ := edges_split s x l1 l2 A B _ _ hA lA hB lB
  exact ⟨(hL _ (by rw [e1]; exact List.mem_append_right _ (.head _))).2, (hL _ (by rw [e1]; exact List.mem_append_right _ (.tail _ (.head _)))).1⟩

theorem linked_ends {w : World} {s : Spot} {l : List Spot} (hL : Linked w s l) : pv w s = some (ptr (ahead s l)) ∧ nx w s = some (ptr (behind s l)) := by
  obtain ⟨A, hA, lA⟩ := split_last s l
  obtain ⟨B, hB, lB⟩ := split_head s l
  constructor
  · have : (ahead s l, s) ∈ edges s l := by
      rw [edges, hA, List.zip_append lA]
      simp
    exact (hL _ this).2
  · have : (s, behind s l) ∈ edges s l := by
      rw [edges, hB]
      exact .head _
    exact (hL _ this).1

/-- One is put at the end of a ring. -/
theorem linked_last {w : World} {s x : Spot} {l : List Spot} (hL : Linked w s l) (hd : Laid w (s :: (l ++ [x]))) :
    Linked ((((w.setCell ⟨x.1, x.2 + 2, none⟩ (ptr (ahead s l))).setCell ⟨x.1, x.2 + 3, none⟩ (ptr s)).setCell ⟨(ahead s l).1, (ahead s l).2 + 3, none⟩ (ptr x)).setCell ⟨s.1, s.2 + 2, none⟩ (ptr x)) s (l ++ [x]) := by
  obtain ⟨A, hA, lA⟩ := split_last s l
  generalize ahead s l = p at *
  have hnd := hd.spots
  have hp : p ∈ s :: l := by rw [hA]; simp
  have hp' : p ∈ s :: (l ++ [x]) := by grind
  have hx' : x ∈ s :: (l ++ [x]) := by simp
  have hs' : s ∈ s :: (l ++ [x]) := by simp
  have hd1 := hd.setCell ⟨x.1, x.2 + 2, none⟩ (ptr p)
  have hd2 := hd1.setCell ⟨x.1, x.2 + 3, none⟩ (ptr s)
  have hd3 := hd2.setCell ⟨p.1, p.2 + 3, none⟩ (ptr x)
  have hxl : x ∉ s :: l := by
    grind
  have hpx : p ≠ x := fun h => hxl (h ▸ hp)
  have hsx : s ≠ x := fun h => hxl (by simp [h])
  have e1 : edges s (l ++ [x]) = A.zip l ++ [(p, x), (x, s)] := by
    have a1 : s :: (l ++ [x]) = A ++ [p, x] := by rw [← List.cons_append, hA]; simp
    have a2 : l ++ [x] ++ [s] = l ++ [x, s] := by simp
    rw [edges, a1, a2, List.zip_append lA]
    rfl
  have e2 : edges s l = A.zip l ++ [(p, s)] := by
    rw [edges, hA, List.zip_append lA]
    rfl
  have hnA : (A ++ [p]).Nodup := by rw [← hA]; exact hnd.sublist (by simp)
  intro e he
  have hmem := edges_mem s _ e he
  rw [nx_set_pv hd3 hs' hmem.1, nx_set_nx hd2 hp' hmem.1, nx_set_nx hd1 hx' hmem.1, nx_set_pv hd hx' hmem.1,
    pv_set_pv hd3 hs' hmem.2, pv_set_nx hd2 hp' hmem.2, pv_set_nx hd1 hx' hmem.2, pv_set_pv hd hx' hmem.2]
  rw [e1] at he
  rcases List.mem_append.1 he with he | he
  · have hz := List.of_mem_zip (a := e.1) (b := e.2) he
    have n1 : p ≠ e.1 := fun h => by
      rw [List.nodup_append] at hnA
      exact hnA.2.2 _ hz.1 p (by simp) h.symm
    have n2 : x ≠ e.1 := fun h => hxl (by rw [hA, h]; exact List.mem_append_left _ hz.1)
    have n3 : s ≠ e.2 := fun h => by
      have := hz.2
      grind
    have n4 : x ≠ e.2 := fun h => hxl (by rw [h]; simp [hz.2])
    rw [if_neg n1, if_neg n2, if_neg n3, if_neg n4]
    exact hL e (by rw [e2]; exact List.mem_append_left _ he)
  · simp only [List.mem_cons, List.not_mem_nil, or_false] at he
    rcases he with rfl | rfl
    · simp [hsx]
    · simp [hpx]

end Go.Proofs.YtdkcnigghcbnpaaGreat

/- Boxes: blocks of one cell, as captured variables have. No program is named here. -/
namespace Go.Proofs.YtdkcnigghcbnpaaGreat
set_option linter.unusedVariables false
set_option linter.unusedSimpArgs false
open Go.RowKit

/-- Block b is a box that holds v. -/
structure Box (W : World) (b : Nat) (v : Value) : Prop where
  row : RowAt W b 1
  cell : W.cell? ⟨b, 0, none⟩ = some v

theorem Box.lt {W : World} {b : Nat} {v : Value} (h : Box W b v) : b < W.heap.size := h.row.lt
theorem Box.frozen {W : World} {b : Nat} {v : Value} (h : Box W b v) : W.frozen? ⟨b, 0, none⟩ = false := h.row.frozen 0
theorem Box.new (W : World) (v : Value) (t : TypeId) : Box (W.alloc (.cells #[v] t)) W.heap.size v := by
  refine ⟨RowAt.new W #[v] t, ?_⟩
  have := heap_alloc_new W (.cells #[v] t)
  simp only [World.cell?, this]
  rfl
theorem Box.kept {S : Nat → Prop} {W W' : World} {b : Nat} {v : Value} (h : Box W b v) (k : Kept S W W') (hn : ¬ S b) : Box W' b v :=
  ⟨h.row.kept k hn, (k.cell (p := ⟨b, 0, none⟩) h.lt hn).trans h.cell⟩
theorem Box.alloc {W : World} {b : Nat} {v : Value} (h : Box W b v) (o : Obj) : Box (W.alloc o) b v := h.kept (Kept.one_alloc W o) (fun e => e)
theorem Box.set {W : World} {b : Nat} {v : Value} (h : Box W b v) (u : Value) : Box (W.setCell ⟨b, 0, none⟩ u) b u :=
  ⟨h.row.setCell _ _, cell_set_same h.row (by omega) u⟩
theorem Box.other {W : World} {b b' : Nat} {v : Value} (h : Box W b v) (u : Value) (hn : b ≠ b') : Box (W.setCell ⟨b', 0, none⟩ u) b v :=
  h.kept (Kept.one_set W ⟨b', 0, none⟩ u) hn
theorem Box.twin {W W' : World} {b : Nat} {v : Value} (h : Box W b v) (t : Twin W' W) : Box W' b v := h.kept ((Kept.refl (fun _ => False) W).twin t) (fun e => e)
end Go.Proofs.YtdkcnigghcbnpaaGreat

/- Small facts on whole numbers: masks, remainders. Plain. -/
namespace Go.Proofs.YtdkcnigghcbnpaaGreat
open Go.RowKit
set_option linter.unusedVariables false
set_option linter.unusedSimpArgs false

theorem and_mask (n : Int) (k : Nat) (hk : k ≤ 62) : bits .and .i64 n ((2 ^ k - 1 : Nat) : Int) = n % ((2 ^ k : Nat) : Int) := by
  have hp : (2 : Nat) ^ k ≤ 2 ^ 62 := Nat.pow_le_pow_right (by omega) hk
  have h0 : 0 < (2 : Nat) ^ k := Nat.two_pow_pos k
  have e1 : (BitVec.ofInt 64 ((2 ^ k - 1 : Nat) : Int)).toNat = 2 ^ k - 1 := by
    rw [BitVec.toNat_ofInt]
    have : (((2 ^ k - 1 : Nat) : Int) % ((2 ^ 64 : Nat) : Int)) = ((2 ^ k - 1 : Nat) : Int) := Int.emod_eq_of_lt (by omega) (by have : (2:Nat)^62 < 2^64 := by decide
                                                                                                                                omega)
    rw [this]
    exact Int.toNat_natCast _
  have key : (BitVec.ofInt 64 n &&& BitVec.ofInt 64 ((2 ^ k - 1 : Nat) : Int)).toNat = (n % ((2 ^ 64 : Nat) : Int)).toNat % 2 ^ k := by
    rw [BitVec.toNat_and, e1, Nat.and_two_pow_sub_one_eq_mod, BitVec.toNat_ofInt]
  show IntKind.i64.wrap ((BitVec.ofInt 64 n &&& BitVec.ofInt 64 ((2 ^ k - 1 : Nat) : Int)).toNat : Nat) = _
  rw [key]
  have hd : ((2 ^ k : Nat) : Int) ∣ ((2 ^ 64 : Nat) : Int) := by
    refine Int.natCast_dvd_natCast.2 (Nat.pow_dvd_pow 2 (by omega))
  have e2 : (((n % ((2 ^ 64 : Nat) : Int)).toNat % 2 ^ k : Nat) : Int) = n % ((2 ^ k : Nat) : Int) := by
    rw [Int.natCast_emod, Int.toNat_of_nonneg (Int.emod_nonneg _ (by decide)), Int.emod_emod_of_dvd _ hd]
  rw [e2]
  have h1 := Int.emod_nonneg n (b := ((2 ^ k : Nat) : Int)) (by omega)
  have h2 := Int.emod_lt_of_pos n (b := ((2 ^ k : Nat) : Int)) (by omega)
  generalize n % ((2 ^ k : Nat) : Int) = r at h1 h2
  have h3 : r < 4611686018427387904 := by
    have : ((2 ^ k : Nat) : Int) ≤ ((2 ^ 62 : Nat) : Int) := by exact_mod_cast hp
    have e : ((2 ^ 62 : Nat) : Int) = 4611686018427387904 := by decide
    omega
  rw [IntKind.wrap_i64]
  omega

/-- A number that is masked, as a natural number below the power of two. -/
theorem mask_nat (n : Int) (k : Nat) (hk : k ≤ 62) (M : Int) (hM : M = ((2 ^ k - 1 : Nat) : Int)) : ∃ m : Nat, bits .and .i64 n M = (m : Int) ∧ m < 2 ^ k := by
  rw [hM, and_mask n k hk]
  have h0 : 0 < (2 : Nat) ^ k := Nat.two_pow_pos k
  have h1 := Int.emod_nonneg n (b := ((2 ^ k : Nat) : Int)) (by omega)
  have h2 := Int.emod_lt_of_pos n (b := ((2 ^ k : Nat) : Int)) (by omega)
  exact ⟨(n % ((2 ^ k : Nat) : Int)).toNat, by omega, by omega⟩
/-- The rest of a division of natural numbers, as Go has it. -/
theorem tmod_nat (a b : Nat) : ((a : Int)).tmod (b : Int) = ((a % b : Nat) : Int) := by
  rw [Int.tmod_eq_emod_of_nonneg (by omega)]
  exact (Int.natCast_emod a b).symm
theorem wrap64_small {x : Int} (h0 : -9223372036854775808 ≤ x) (h1 : x ≤ 9223372036854775807) : wrap64 x = x := by
  unfold wrap64
  omega
end Go.Proofs.YtdkcnigghcbnpaaGreat
