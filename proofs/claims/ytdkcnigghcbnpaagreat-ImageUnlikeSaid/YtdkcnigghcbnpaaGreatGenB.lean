/- What stands under the walks, part B. -/
import Derived.Test.YtdkcnigghcbnpaaGreatGenA
import Derived.MapKept
import Derived.RangeFuncRecord
import Derived.Maps.OwnOps
/- A map from keys of a plain kind to pointers, as a table: what a look-up, a store of a new key, a delete and len do to it. No program is named here. -/
namespace Go.Proofs.YtdkcnigghcbnpaaGreat
set_option linter.unusedVariables false
set_option linter.unusedSimpArgs false
open Go.RowKit Go.MapKept

/-- A kind of keys. -/
structure KeyK (κ : Type) where
  enc : κ → Value
  d : TypeDesc
  is : ∀ k, IsKey d (enc k)
  inj : ∀ a b, enc a = enc b → a = b
def strK : KeyK ByteArray := ⟨.string, .string, fun _ => trivial, fun _ _ h => by injection h⟩
def intK : KeyK Int := ⟨.int .i64, .int .i64, fun _ => rfl, fun _ _ h => by injection h⟩
def u8K : KeyK Int := ⟨.int .u8, .int .u8, fun _ => rfl, fun _ _ h => by injection h⟩

/-- An entry: its link's block, its key, its value. -/
structure Ent (κ ν : Type) where
  b : Nat
  k : κ
  v : ν

section
variable {κ ν : Type} (K : KeyK κ)

/-- Block bm is a map of the entries' keys to their links. -/
def Tab (w : World) (bm : Nat) (xs : List (Ent κ ν)) : Prop :=
  ∃ es clock, w.heap[bm]? = some (.map es clock) ∧ (es.toList.map fun e => (e.key, e.val)).Perm (xs.map fun x => (K.enc x.k, ptr (x.b, 0))) ∧ Stamped es clock

variable {K} {w w' : World} {bm : Nat} {xs : List (Ent κ ν)}

theorem Tab.lt (h : Tab K w bm xs) : bm < w.heap.size := by
  obtain ⟨es, clock, hb, _⟩ := h
  exact (Array.getElem?_eq_some_iff.1 hb).1
theorem Tab.of_block (h : Tab K w bm xs) (e : w'.heap[bm]? = w.heap[bm]?) : Tab K w' bm xs := by
  obtain ⟨es, clock, hb, hp, hs⟩ := h
  exact ⟨es, clock, e.trans hb, hp, hs⟩
theorem Tab.kept {S : Nat → Prop} (h : Tab K w bm xs) (k : Kept S w w') (hn : ¬ S bm) : Tab K w' bm xs := h.of_block (k.block bm h.lt hn)
theorem Tab.perm {ys : List (Ent κ ν)} (h : Tab K w bm xs) (p : xs.Perm ys) : Tab K w bm ys := by
  obtain ⟨es, clock, hb, hp, hs⟩ := h
  exact ⟨es, clock, hb, hp.trans (p.map _), hs⟩
/-- The values do not matter to it. -/
theorem Tab.vals {ν' : Type} {ys : List (Ent κ ν')} (h : Tab K w bm xs) (e : (ys.map fun y => (y.k, y.b)) = xs.map fun x => (x.k, x.b)) : Tab K w bm ys := by
  obtain ⟨es, clock, hb, hp, hs⟩ := h
  refine ⟨es, clock, hb, ?_, hs⟩
  have e' := congrArg (List.map fun (q : κ × Nat) => (K.enc q.1, ptr (q.2, 0))) e
  simp only [List.map_map] at e'
  rw [show (fun (x : Ent κ ν') => (K.enc x.k, ptr (x.b, 0))) = (fun (q : κ × Nat) => (K.enc q.1, ptr (q.2, 0))) ∘ fun y => (y.k, y.b) from rfl, e']
  exact hp
theorem tab_new (w : World) : Tab (ν := ν) K (w.alloc (.map #[] 0)) w.heap.size [] := ⟨#[], 0, heap_alloc_new w _, by simp, stamped_empty 0⟩

theorem isKeys {es : Array MapEntry} (hp : (es.toList.map fun e => (e.key, e.val)).Perm (xs.map fun x => (K.enc x.k, ptr (x.b, 0)))) : ∀ e ∈ es.toList, ∃ x ∈ xs, e.key = K.enc x.k ∧ e.val = ptr (x.b, 0) := by
  intro e he
  have h1 := hp.subset (List.mem_map_of_mem (f := fun e => (e.key, e.val)) he)
  obtain ⟨x, hx, h2⟩ := List.mem_map.1 h1
  injection h2 with a b
  exact ⟨x, hx, a.symm, b.symm⟩

theorem tab_find {es : Array MapEntry} (hp : (es.toList.map fun e => (e.key, e.val)).Perm (xs.map fun x => (K.enc x.k, ptr (x.b, 0)))) (k : κ) :
    (Instr.findNow K.d (K.enc k) es.toList 0 = some none ∧ (∀ x ∈ xs, x.k ≠ k)) ∨
    ∃ j e, Instr.findNow K.d (K.enc k) es.toList 0 = some (some (j, e.val)) ∧ es.toList[j]? = some e ∧ e.key = K.enc k ∧ ∃ x ∈ xs, x.k = k ∧ e.val = ptr (x.b, 0) := by
  rcases findNow_spec (K.is k) es.toList 0 (fun e he => by obtain ⟨x, _, h, _⟩ := isKeys hp e he; rw [h]; exact K.is _) with ⟨h1, h2⟩ | ⟨j, e, h1, h2, h3⟩
  · refine .inl ⟨h1, fun x hx hk => ?_⟩
    have := hp.symm.subset (List.mem_map_of_mem (f := fun x => (K.enc x.k, ptr (x.b, 0))) hx)
    obtain ⟨e, he, h4⟩ := List.mem_map.1 this
    injection h4 with a _
    exact h2 e he (by rw [a, hk])
  · refine .inr ⟨j, e, by simpa using h1, h2, h3, ?_⟩
    obtain ⟨x, hx, h4, h5⟩ := isKeys hp e (List.mem_of_getElem? h2)
    exact ⟨x, hx, K.inj _ _ (by rw [← h4, h3]), h5⟩

theorem one_of_key (hn : (xs.map (·.k)).Nodup) {x y : Ent κ ν} (hx : x ∈ xs) (hy : y ∈ xs) (e : x.k = y.k) : x = y := by
  induction xs with
  | nil => cases hx
  | cons c l ih =>
    simp only [List.map_cons, List.nodup_cons, List.mem_map] at hn
    rcases List.mem_cons.1 hx with h1 | h1
    · rcases List.mem_cons.1 hy with h2 | h2
      · rw [h1, h2]
      · exact (hn.1 ⟨y, h2, by rw [← e, h1]⟩).elim
    · rcases List.mem_cons.1 hy with h2 | h2
      · exact (hn.1 ⟨x, h1, by rw [e, h2]⟩).elim
      · exact ih hn.2 h1 h2

section
variable {P : Program} {t kt et ty : TypeId}

theorem run_lookup_hit (ht : P.underlying t = some (.map kt et)) (hd : P.underlying kt = some K.d) (h : Tab K w bm xs) (hn : (xs.map (·.k)).Nodup) {x : Ent κ ν} (hx : x ∈ xs) (ok : Bool) :
    (Instr.lookup t (.map (some bm)) (K.enc x.k) ok).run P w = .ok (if ok then .tuple #[ptr (x.b, 0), .bool true] else ptr (x.b, 0)) w := by
  obtain ⟨es, clock, hb, hp, hst⟩ := h
  rcases tab_find hp x.k with ⟨_, h2⟩ | ⟨j, e, h1, _, _, y, hy, h4, h5⟩
  · exact (h2 x hx rfl).elim
  · have := one_of_key hn hy hx h4
    subst this
    simp only [Instr.lookup, Sem.run_bind, Sem.run_pure, run_underlying ht, Result.andThen, MapKept.run_getObj_map hb, run_checkKey hd (K.is _), MapKept.run_findKey hd h1, h5]

theorem run_lookup_miss (ht : P.underlying t = some (.map kt et)) (hd : P.underlying kt = some K.d) (h : Tab K w bm xs) {k : κ} (hx : ∀ x ∈ xs, x.k ≠ k) (ok : Bool) (hz : (zeroValue et).run P w = .ok (.pointer none) w) :
    (Instr.lookup t (.map (some bm)) (K.enc k) ok).run P w = .ok (if ok then .tuple #[.pointer none, .bool false] else .pointer none) w := by
  obtain ⟨es, clock, hb, hp, hst⟩ := h
  rcases tab_find hp k with ⟨h1, _⟩ | ⟨j, e, _, _, _, y, hy, h4, _⟩
  · simp only [Instr.lookup, Sem.run_bind, Sem.run_pure, run_underlying ht, Result.andThen, MapKept.run_getObj_map hb, run_checkKey hd (K.is _), MapKept.run_findKey hd h1, hz]
  · exact (hx y hy h4).elim

theorem run_update_new (ht : P.underlying t = some (.map kt et)) (hd : P.underlying kt = some K.d) (h : Tab K w bm xs) {x : Ent κ ν} (hx : ∀ y ∈ xs, y.k ≠ x.k) :
    ∃ w1, (Instr.mapUpdate t (.map (some bm)) (K.enc x.k) (ptr (x.b, 0))).run P w = .ok () w1 ∧ Tab K w1 bm (xs ++ [x]) ∧ Kept (fun b => b = bm) w w1 ∧ w1.heap.size = w.heap.size := by
  obtain ⟨es, clock, hb, hp, hst⟩ := h
  rcases tab_find hp x.k with ⟨h1, _⟩ | ⟨j, e, _, _, _, y, hy, h4, _⟩
  · refine ⟨w.putObj bm (.map (es.push { key := K.enc x.k, val := ptr (x.b, 0), born := clock }) (clock + 1)), ?_, ⟨_, _, World.putObj_heap_same (Array.getElem?_eq_some_iff.1 hb).1, ?_, stamped_push hst (fun e he ek => by obtain ⟨y, hy, h2, _⟩ := isKeys hp e he; exact hx y hy (K.inj _ _ (h2.symm.trans ek)))⟩, ⟨rfl, rfl, rfl, by simp, fun k _ hn => World.putObj_heap_other hn⟩, by simp⟩
    · simp only [Instr.mapUpdate, Sem.run_bind, Sem.run_pure, run_underlying ht, Result.andThen, MapKept.run_getObj_map hb, run_checkKey hd (K.is _), MapKept.run_findKey hd h1, run_setObj_map _ hb]
      rfl
    · simp only [Array.toList_push, List.map_append, List.map_cons, List.map_nil]
      exact hp.append_right _
  · exact (hx y hy h4).elim

theorem run_len (ht : P.underlying t = some (.map kt et)) (h : Tab K w bm xs) : (Builtin.len_ #[t] ty #[.map (some bm)]).run P w = .ok (.int .i64 xs.length) w := by
  obtain ⟨es, clock, hb, hp, hst⟩ := h
  have hl : es.size = xs.length := by simpa using hp.length_eq
  simp [Builtin.len_, run_underlying ht, Result.andThen, MapKept.run_getObj_map hb, goInt, hl, Sem.run]

theorem run_delete_hit (ht : P.underlying t = some (.map kt et)) (hd : P.underlying kt = some K.d) (l1 l2 : List (Ent κ ν)) (x : Ent κ ν) (h : Tab K w bm (l1 ++ x :: l2)) (hn : ((l1 ++ x :: l2).map (·.k)).Nodup) (tk : TypeId) :
    ∃ w1, (Builtin.delete_ #[t, tk] ty #[.map (some bm), K.enc x.k]).run P w = .ok (.tuple #[]) w1 ∧ Tab K w1 bm (l1 ++ l2) ∧ Kept (fun b => b = bm) w w1 ∧ w1.heap.size = w.heap.size := by
  obtain ⟨es, clock, hb, hp, hst⟩ := h
  rcases tab_find hp x.k with ⟨_, h2⟩ | ⟨j, e, h1, hj, hk, y, hy, h4, h5⟩
  · exact (h2 x (by simp) rfl).elim
  · have hyx := one_of_key hn hy (by simp : x ∈ l1 ++ x :: l2) h4
    subst hyx
    have hlt : j < es.size := by
      have := (List.getElem?_eq_some_iff.1 hj).1
      simpa using this
    refine ⟨w.putObj bm (.map (es.eraseIdxIfInBounds j) clock), ?_, ⟨_, _, World.putObj_heap_same (Array.getElem?_eq_some_iff.1 hb).1, ?_, stamped_erase hst j⟩, ⟨rfl, rfl, rfl, by simp, fun k _ hn => World.putObj_heap_other hn⟩, by simp⟩
    · simp only [Builtin.delete_, Sem.run_bind, Sem.run_pure, run_underlying ht, Result.andThen]
      simp [run_underlying ht, Result.andThen, MapKept.run_getObj_map hb, run_checkKey hd (K.is _), MapKept.run_findKey hd h1, run_setObj_map _ hb, Sem.run, World.putObj]
    · obtain ⟨A, B, e1, e2⟩ : ∃ A B, es.toList = A ++ e :: B ∧ (es.eraseIdxIfInBounds j).toList = A ++ B := by
        refine ⟨es.toList.take j, es.toList.drop (j + 1), ?_, ?_⟩
        · have := List.getElem?_eq_some_iff.1 hj
          obtain ⟨hl, he⟩ := this
          rw [← he, List.getElem_cons_drop, List.take_append_drop]
        · unfold Array.eraseIdxIfInBounds
          rw [dif_pos hlt]
          simp [List.eraseIdx_eq_take_drop_succ]
      rw [e2]
      rw [e1] at hp
      simp only [List.map_append, List.map_cons] at hp ⊢
      rw [hk, h5] at hp
      exact (List.perm_middle.symm.trans (hp.trans List.perm_middle)).cons_inv
end
end
end Go.Proofs.YtdkcnigghcbnpaaGreat

/- The list of chapter 09 in memory: a ring of links, a table of them. What moving links about, and stores into one, do to it. No program is named here. -/
namespace Go.Proofs.YtdkcnigghcbnpaaGreat
set_option linter.unusedVariables false
set_option linter.unusedSimpArgs false
open Go.RowKit Go.MapKept

/-- Nothing but the links (prev, next) of some spots may have changed. -/
structure Moved (l : List Spot) (w w' : World) : Prop where
  kept : Kept (fun b => b ∈ l.map (·.1)) w w'
  size : w'.heap.size = w.heap.size
  row : ∀ b n, RowAt w b n → RowAt w' b n
  cell : ∀ b o, (∀ a ∈ l, a.1 = b → o ≠ a.2 + 2 ∧ o ≠ a.2 + 3) → w'.cell? ⟨b, o, none⟩ = w.cell? ⟨b, o, none⟩

theorem Moved.refl (l : List Spot) (w : World) : Moved l w w := ⟨.refl _ _, rfl, fun _ _ h => h, fun _ _ _ => rfl⟩
theorem Moved.trans {l : List Spot} {a b c : World} (h : Moved l a b) (k : Moved l b c) : Moved l a c :=
  ⟨h.kept.trans k.kept (fun _ _ h => h), k.size.trans h.size, fun b n hr => k.row b n (h.row b n hr), fun b o hn => (k.cell b o hn).trans (h.cell b o hn)⟩
theorem Moved.sub {l l' : List Spot} {a b : World} (h : Moved l a b) (hs : ∀ x ∈ l, x ∈ l') : Moved l' a b :=
  ⟨h.kept.mono (fun k _ hk => by obtain ⟨x, hx, e⟩ := List.mem_map.1 hk; exact List.mem_map.2 ⟨x, hs x hx, e⟩), h.size, h.row, fun b o hn => h.cell b o (fun a ha => hn a (hs a ha))⟩
theorem Moved.set_nx {l : List Spot} {a : Spot} (ha : a ∈ l) (w : World) (v : Value) : Moved l w (w.setCell ⟨a.1, a.2 + 3, none⟩ v) :=
  ⟨(Kept.one_set w _ v).mono (fun k _ hk => List.mem_map.2 ⟨a, ha, hk.symm⟩), by simp [World.setCell], fun b n hr => hr.setCell _ _,
   fun b o hn => cell_set_other v (fun e => (hn a ha e.1).2 e.2.symm)⟩
theorem Moved.set_pv {l : List Spot} {a : Spot} (ha : a ∈ l) (w : World) (v : Value) : Moved l w (w.setCell ⟨a.1, a.2 + 2, none⟩ v) :=
  ⟨(Kept.one_set w _ v).mono (fun k _ hk => List.mem_map.2 ⟨a, ha, hk.symm⟩), by simp [World.setCell], fun b n hr => hr.setCell _ _,
   fun b o hn => cell_set_other v (fun e => (hn a ha e.1).1 e.2.symm)⟩
theorem Moved.twin {l : List Spot} {a b b' : World} (h : Moved l a b) (e : Twin b' b) : Moved l a b' := by
  obtain ⟨n, rfl⟩ := e.eq
  exact ⟨h.kept.twin e, h.size, h.row, h.cell⟩
theorem Linked.twin {s : Spot} {l : List Spot} {w w' : World} (h : Linked w s l) (t : Twin w' w) : Linked w' s l := by
  obtain ⟨n, rfl⟩ := t.eq
  exact h
theorem ahead_mem (s : Spot) (l : List Spot) : ahead s l ∈ s :: l := List.getLast_mem _
theorem behind_mem (s : Spot) (l : List Spot) : behind s l ∈ l ++ [s] := List.head_mem _


theorem ends_mem {s : Spot} {l1 l2 : List Spot} (x : Spot) : ahead s l1 ∈ s :: (l1 ++ x :: l2) ∧ behind s l2 ∈ s :: (l1 ++ x :: l2) := by
  have h1 := ahead_mem s l1
  have h2 := behind_mem s l2
  grind

/-! ## The list -/
def spots {κ ν : Type} (xs : List (Ent κ ν)) : List Spot := xs.map fun x => (x.b, 0)

section
variable {κ ν : Type}

/-- The list at block bl, its table at block bm: so many entries it may have, these it has, the one that was used longest ago first. -/
structure Lru (K : KeyK κ) (V : ν → Value) (zk : Value) (w : World) (bl bm : Nat) (most : Int) (xs : List (Ent κ ν)) : Prop where
  nodup : (bl :: bm :: xs.map (·.b)).Nodup
  keys : (xs.map (·.k)).Nodup
  head : RowAt w bl 6
  row : ∀ x ∈ xs, RowAt w x.b 4
  most : w.cell? ⟨bl, 0, none⟩ = some (.int .i64 most)
  zk : w.cell? ⟨bl, 1, none⟩ = some zk
  links : w.cell? ⟨bl, 5, none⟩ = some (.map (some bm))
  key : ∀ x ∈ xs, w.cell? ⟨x.b, 0, none⟩ = some (K.enc x.k)
  val : ∀ x ∈ xs, w.cell? ⟨x.b, 1, none⟩ = some (V x.v)
  linked : Linked w (bl, 1) (spots xs)
  tab : Tab K w bm xs

/-- The blocks that a list takes. -/
def Lfp (bl bm : Nat) (xs : List (Ent κ ν)) (b : Nat) : Prop := b = bl ∨ b = bm ∨ ∃ x ∈ xs, x.b = b

variable {K : KeyK κ} {V : ν → Value} {zk : Value} {w w' : World} {bl bm : Nat} {most : Int} {xs ys : List (Ent κ ν)}

theorem Lru.lt (h : Lru K V zk w bl bm most xs) : ∀ b, Lfp bl bm xs b → b < w.heap.size := by
  rintro b (rfl | rfl | ⟨x, hx, rfl⟩)
  · exact h.head.lt
  · exact h.tab.lt
  · exact (h.row x hx).lt

theorem Lru.laid (h : Lru K V zk w bl bm most xs) : Laid w ((bl, 1) :: spots xs) := by
  constructor
  · have := h.nodup
    simp only [spots, List.map_cons, List.map_map]
    rw [show ((fun (a : Spot) => a.1) ∘ fun (x : Ent κ ν) => (x.b, 0)) = (·.b) from rfl]
    grind
  · intro a ha
    rcases List.mem_cons.1 ha with rfl | ha
    · exact ⟨6, by simp, h.head⟩
    · obtain ⟨x, hx, rfl⟩ := List.mem_map.1 ha
      exact ⟨4, by simp, h.row x hx⟩

theorem Linked.kept {S : Nat → Prop} {s : Spot} {l : List Spot} (h : Linked w s l) (hd : Laid w (s :: l)) (k : Kept S w w') (hn : ∀ a ∈ s :: l, ¬ S a.1) : Linked w' s l := by
  intro e he
  have hm := edges_mem s l e he
  obtain ⟨n1, _, r1⟩ := hd.row _ hm.1
  obtain ⟨n2, _, r2⟩ := hd.row _ hm.2
  have := h e he
  unfold nx pv at *
  exact ⟨(k.cell r1.lt (hn _ hm.1)).trans this.1, (k.cell r2.lt (hn _ hm.2)).trans this.2⟩

theorem Lru.kept {S : Nat → Prop} (h : Lru K V zk w bl bm most xs) (k : Kept S w w') (hn : ∀ b, Lfp bl bm xs b → ¬ S b) : Lru K V zk w' bl bm most xs := by
  have n0 := hn bl (.inl rfl)
  have n1 := hn bm (.inr (.inl rfl))
  have n2 : ∀ x ∈ xs, ¬ S x.b := fun x hx => hn x.b (.inr (.inr ⟨x, hx, rfl⟩))
  refine ⟨h.nodup, h.keys, h.head.kept k n0, fun x hx => (h.row x hx).kept k (n2 x hx), (k.cell h.head.lt n0).trans h.most, (k.cell h.head.lt n0).trans h.zk, (k.cell h.head.lt n0).trans h.links,
    fun x hx => (k.cell (h.row x hx).lt (n2 x hx)).trans (h.key x hx), fun x hx => (k.cell (h.row x hx).lt (n2 x hx)).trans (h.val x hx), ?_, h.tab.kept k n1⟩
  refine h.linked.kept h.laid k fun a ha => ?_
  rcases List.mem_cons.1 ha with rfl | ha
  · exact n0
  · obtain ⟨x, hx, rfl⟩ := List.mem_map.1 ha
    exact n2 x hx

theorem Lru.twin (h : Lru K V zk w bl bm most xs) (t : Twin w' w) : Lru K V zk w' bl bm most xs := by
  obtain ⟨n, rfl⟩ := t.eq
  exact ⟨h.nodup, h.keys, h.head, h.row, h.most, h.zk, h.links, h.key, h.val, h.linked, h.tab⟩

theorem Lru.fp_perm (p : ys.Perm xs) (b : Nat) : Lfp bl bm ys b ↔ Lfp bl bm xs b := by
  unfold Lfp
  have : (∃ x ∈ ys, x.b = b) ↔ ∃ x ∈ xs, x.b = b := ⟨fun ⟨x, hx, e⟩ => ⟨x, p.subset hx, e⟩, fun ⟨x, hx, e⟩ => ⟨x, p.symm.subset hx, e⟩⟩
  rw [this]

/-- The same entries, in another order: only the links have been moved. -/
theorem Lru.moved (h : Lru K V zk w bl bm most xs) (m : Moved ((bl, 1) :: spots xs) w w') (p : ys.Perm xs) (hl : Linked w' (bl, 1) (spots ys)) : Lru K V zk w' bl bm most ys := by
  have hnd := h.nodup
  have hmem : ∀ y ∈ ys, y ∈ xs := fun y hy => p.subset hy
  have hcl : ∀ o, o ≠ 3 → o ≠ 4 → w'.cell? ⟨bl, o, none⟩ = w.cell? ⟨bl, o, none⟩ := by
    intro o h3 h4
    refine m.cell bl o fun a ha e => ?_
    rcases List.mem_cons.1 ha with rfl | ha
    · simp; omega
    · obtain ⟨x, hx, rfl⟩ := List.mem_map.1 ha
      have : bl ∈ xs.map (·.b) := List.mem_map.2 ⟨x, hx, e⟩
      grind
  have hcx : ∀ x ∈ xs, ∀ o, o < 2 → w'.cell? ⟨x.b, o, none⟩ = w.cell? ⟨x.b, o, none⟩ := by
    intro x hx o ho
    refine m.cell x.b o fun a ha e => ?_
    rcases List.mem_cons.1 ha with rfl | ha
    · simp; omega
    · obtain ⟨y, hy, rfl⟩ := List.mem_map.1 ha
      simp; omega
  refine ⟨?_, ?_, m.row _ _ h.head, fun y hy => m.row _ _ (h.row y (hmem y hy)), (hcl 0 (by omega) (by omega)).trans h.most, (hcl 1 (by omega) (by omega)).trans h.zk, (hcl 5 (by omega) (by omega)).trans h.links,
    fun y hy => (hcx y (hmem y hy) 0 (by omega)).trans (h.key y (hmem y hy)), fun y hy => (hcx y (hmem y hy) 1 (by omega)).trans (h.val y (hmem y hy)), hl, (h.tab.kept m.kept ?_).perm p.symm⟩
  · have q : (ys.map (·.b)).Perm (xs.map (·.b)) := p.map _
    exact ((q.cons bm).cons bl).nodup_iff.2 hnd
  · exact ((p.map _).nodup_iff).2 h.keys
  · intro hb
    obtain ⟨a, ha, e⟩ := List.mem_map.1 hb
    rcases List.mem_cons.1 ha with rfl | ha
    · grind
    · obtain ⟨x, hx, rfl⟩ := List.mem_map.1 ha
      have : bm ∈ xs.map (·.b) := List.mem_map.2 ⟨x, hx, e⟩
      grind

theorem moved_kept {l : List (Ent κ ν)} (m : Moved ((bl, 1) :: spots l) w w') : Kept (Lfp bl bm l) w w' := by
  refine m.kept.mono fun k _ hk => ?_
  obtain ⟨a, ha, e⟩ := List.mem_map.1 hk
  rcases List.mem_cons.1 ha with rfl | ha
  · exact .inl e.symm
  · obtain ⟨x, hx, rfl⟩ := List.mem_map.1 ha
    exact .inr (.inr ⟨x, hx, e⟩)

/-- Another value is stored into an entry. -/
theorem Lru.store {l1 l2 : List (Ent κ ν)} {x : Ent κ ν} (h : Lru K V zk w bl bm most (l1 ++ x :: l2)) (v : ν) :
    Lru K V zk (w.setCell ⟨x.b, 1, none⟩ (V v)) bl bm most (l1 ++ { x with v := v } :: l2) := by
  have hx : x ∈ l1 ++ x :: l2 := by simp
  have hnd := h.nodup
  have hne : x.b ≠ bl := by grind
  have hnm : x.b ≠ bm := by grind
  have hsp : spots (l1 ++ { x with v := v } :: l2) = spots (l1 ++ x :: l2) := by simp [spots]
  have hb : (l1 ++ { x with v := v } :: l2).map (·.b) = (l1 ++ x :: l2).map (·.b) := by simp
  have hk : (l1 ++ { x with v := v } :: l2).map (·.k) = (l1 ++ x :: l2).map (·.k) := by simp
  have hmem : ∀ y ∈ l1 ++ { x with v := v } :: l2, (y = { x with v := v }) ∨ (y ∈ l1 ++ x :: l2 ∧ y.b ≠ x.b) := by
    intro y hy
    grind
  have hkc : ∀ b o, ¬ (b = x.b ∧ o = 1) → (w.setCell ⟨x.b, 1, none⟩ (V v)).cell? ⟨b, o, none⟩ = w.cell? ⟨b, o, none⟩ := fun b o hn => cell_set_other _ (fun e => hn ⟨e.1.symm, e.2.symm⟩)
  refine ⟨by rw [hb]; exact h.nodup, by rw [hk]; exact h.keys, h.head.setCell _ _, ?_, (hkc _ _ (by simp)).trans h.most, (hkc _ _ (fun e => hne e.1.symm)).trans h.zk, (hkc _ _ (by simp)).trans h.links, ?_, ?_, ?_, ?_⟩
  · intro y hy
    rcases hmem y hy with rfl | ⟨hy, _⟩
    · exact (h.row x hx).setCell _ _
    · exact (h.row y hy).setCell _ _
  · intro y hy
    rcases hmem y hy with rfl | ⟨hy, _⟩
    · exact (hkc _ _ (by simp)).trans (h.key x hx)
    · exact (hkc _ _ (by simp)).trans (h.key y hy)
  · intro y hy
    rcases hmem y hy with rfl | ⟨hy, hne⟩
    · exact cell_set_same (h.row x hx) (by omega) _
    · exact (hkc _ _ (fun e => hne e.1)).trans (h.val y hy)
  · rw [hsp]
    intro e he
    have := h.linked e he
    unfold nx pv at *
    have hm := edges_mem _ _ e he
    have h1 : ∀ a ∈ (bl, 1) :: spots (l1 ++ x :: l2), ∀ i, 2 ≤ i → ¬ (a.1 = x.b ∧ a.2 + i = 1) := by
      rintro a ha i hi ⟨_, h2⟩
      omega
    rw [hkc _ _ (h1 _ hm.1 3 (by omega)), hkc _ _ (h1 _ hm.2 2 (by omega))]
    exact this
  · refine Tab.vals (xs := l1 ++ x :: l2) (h.tab.kept (Kept.one_set _ _ _) (fun e => hnm e.symm)) (by simp)

/-- One is taken out: out of the ring, and out of the table. -/
theorem Lru.dropped {w1 w2 : World} {l1 l2 : List (Ent κ ν)} {x : Ent κ ν} (h : Lru K V zk w bl bm most (l1 ++ x :: l2)) (m : Moved ((bl, 1) :: spots (l1 ++ x :: l2)) w w1)
    (hl : Linked w1 (bl, 1) (spots (l1 ++ l2))) (ht : Tab K w2 bm (l1 ++ l2)) (k2 : Kept (fun b => b = bm) w1 w2) : Lru K V zk w2 bl bm most (l1 ++ l2) := by
  have hnd := h.nodup
  have hks := h.keys
  have hmem : ∀ y ∈ l1 ++ l2, y ∈ l1 ++ x :: l2 := by intro y hy; grind
  have hbm : ∀ y ∈ l1 ++ x :: l2, y.b ≠ bm := by
    intro y hy e
    have : bm ∈ (l1 ++ x :: l2).map (·.b) := List.mem_map.2 ⟨y, hy, e⟩
    grind
  have hbl : ∀ y ∈ l1 ++ x :: l2, y.b ≠ bl := by
    intro y hy e
    have : bl ∈ (l1 ++ x :: l2).map (·.b) := List.mem_map.2 ⟨y, hy, e⟩
    grind
  have hlm : bl ≠ bm := by grind
  have hcl : ∀ o, o ≠ 3 → o ≠ 4 → w2.cell? ⟨bl, o, none⟩ = w.cell? ⟨bl, o, none⟩ := by
    intro o h3 h4
    refine (k2.cell (m.row _ _ h.head).lt hlm).trans (m.cell bl o fun a ha e => ?_)
    rcases List.mem_cons.1 ha with rfl | ha
    · simp; omega
    · obtain ⟨y, hy, rfl⟩ := List.mem_map.1 ha
      exact (hbl y hy e).elim
  have hcx : ∀ y ∈ l1 ++ x :: l2, ∀ o, o < 2 → w2.cell? ⟨y.b, o, none⟩ = w.cell? ⟨y.b, o, none⟩ := by
    intro y hy o ho
    refine (k2.cell (m.row _ _ (h.row y hy)).lt (hbm y hy)).trans (m.cell y.b o fun a ha e => ?_)
    rcases List.mem_cons.1 ha with rfl | ha
    · exact (hbl y hy e.symm).elim
    · obtain ⟨z, hz, rfl⟩ := List.mem_map.1 ha
      simp; omega
  refine ⟨?_, ?_, (m.row _ _ h.head).kept k2 hlm, fun y hy => (m.row _ _ (h.row y (hmem y hy))).kept k2 (hbm y (hmem y hy)), (hcl 0 (by omega) (by omega)).trans h.most, (hcl 1 (by omega) (by omega)).trans h.zk,
    (hcl 5 (by omega) (by omega)).trans h.links, fun y hy => (hcx y (hmem y hy) 0 (by omega)).trans (h.key y (hmem y hy)), fun y hy => (hcx y (hmem y hy) 1 (by omega)).trans (h.val y (hmem y hy)), ?_, ht⟩
  · simp only [List.map_append, List.map_cons] at hnd ⊢
    grind
  · simp only [List.map_append, List.map_cons] at hks ⊢
    grind
  · refine hl.kept (w := w1) ⟨?_, ?_⟩ k2 ?_
    · have := h.laid.nodup
      simp only [spots, List.map_cons, List.map_map, List.map_append] at this ⊢
      grind
    · intro a ha
      have ha' : a ∈ (bl, 1) :: spots (l1 ++ x :: l2) := by simp [spots] at ha ⊢; grind
      obtain ⟨n, hn, hr⟩ := h.laid.row a ha'
      exact ⟨n, hn, m.row _ _ hr⟩
    · intro a ha
      rcases List.mem_cons.1 ha with rfl | ha
      · exact hlm
      · obtain ⟨y, hy, rfl⟩ := List.mem_map.1 ha
        exact hbm y (hmem y hy)

/-- What a link of its own is, ahead of its being put into the ring. -/
structure Loose (K : KeyK κ) (V : ν → Value) (w : World) (x : Ent κ ν) : Prop where
  row : RowAt w x.b 4
  key : w.cell? ⟨x.b, 0, none⟩ = some (K.enc x.k)
  val : w.cell? ⟨x.b, 1, none⟩ = some (V x.v)

theorem Lru.ring_then {w2 : World} {x : Ent κ ν} (h : Lru K V zk w bl bm most xs) (hx : Loose K V w x) (hf : ¬ Lfp bl bm xs x.b) (k2 : Kept (fun b => b = bm) w w2) :
    Linked w2 (bl, 1) (spots xs) ∧ Laid w2 ((bl, 1) :: (spots xs ++ [(x.b, 0)])) := by
  have hnd := h.nodup
  have hbm : ∀ y ∈ xs, y.b ≠ bm := by
    intro y hy e
    have : bm ∈ xs.map (·.b) := List.mem_map.2 ⟨y, hy, e⟩
    grind
  have hlm : bl ≠ bm := by grind
  have hxl : x.b ≠ bl := fun e => hf (.inl e)
  have hxm : x.b ≠ bm := fun e => hf (.inr (.inl e))
  have hxx : ∀ y ∈ xs, y.b ≠ x.b := fun y hy e => hf (.inr (.inr ⟨y, hy, e⟩))
  refine ⟨h.linked.kept h.laid k2 fun a ha => ?_, ?_, ?_⟩
  · rcases List.mem_cons.1 ha with rfl | ha
    · exact hlm
    · obtain ⟨y, hy, rfl⟩ := List.mem_map.1 ha
      exact hbm y hy
  · have := h.laid.nodup
    have hni : x.b ∉ (spots xs).map (·.1) := by
      intro hm
      obtain ⟨a, ha, e⟩ := List.mem_map.1 hm
      obtain ⟨y, hy, rfl⟩ := List.mem_map.1 ha
      exact hxx y hy e
    simp only [List.map_cons, List.map_append, List.map_nil] at this ⊢
    grind
  · intro a ha
    have : a ∈ (bl, 1) :: spots xs ∨ a = (x.b, 0) := by grind
    rcases this with ha | rfl
    · obtain ⟨n, hn, hr⟩ := h.laid.row a ha
      refine ⟨n, hn, hr.kept k2 ?_⟩
      rcases List.mem_cons.1 ha with rfl | ha
      · exact hlm
      · obtain ⟨y, hy, rfl⟩ := List.mem_map.1 ha
        exact hbm y hy
    · exact ⟨4, by simp, hx.row.kept k2 hxm⟩

/-- One that is new: into the table, and to the end of the ring. -/
theorem Lru.added {w2 w3 : World} {x : Ent κ ν} (h : Lru K V zk w bl bm most xs) (hx : Loose K V w x) (hf : ¬ Lfp bl bm xs x.b) (hk : ∀ y ∈ xs, y.k ≠ x.k)
    (ht : Tab K w2 bm (xs ++ [x])) (k2 : Kept (fun b => b = bm) w w2) (m : Moved ((bl, 1) :: (spots xs ++ [(x.b, 0)])) w2 w3) (hl : Linked w3 (bl, 1) (spots xs ++ [(x.b, 0)])) :
    Lru K V zk w3 bl bm most (xs ++ [x]) := by
  have hnd := h.nodup
  have hks := h.keys
  have hbm : ∀ y ∈ xs, y.b ≠ bm := by
    intro y hy e
    have : bm ∈ xs.map (·.b) := List.mem_map.2 ⟨y, hy, e⟩
    grind
  have hbl : ∀ y ∈ xs, y.b ≠ bl := by
    intro y hy e
    have : bl ∈ xs.map (·.b) := List.mem_map.2 ⟨y, hy, e⟩
    grind
  have hlm : bl ≠ bm := by grind
  have hxl : x.b ≠ bl := fun e => hf (.inl e)
  have hxm : x.b ≠ bm := fun e => hf (.inr (.inl e))
  have hxx : ∀ y ∈ xs, y.b ≠ x.b := fun y hy e => hf (.inr (.inr ⟨y, hy, e⟩))
  have hcl : ∀ o, o ≠ 3 → o ≠ 4 → w3.cell? ⟨bl, o, none⟩ = w.cell? ⟨bl, o, none⟩ := by
    intro o h3 h4
    refine (m.cell bl o fun a ha e => ?_).trans (k2.cell h.head.lt hlm)
    have : a = (bl, 1) ∨ a ∈ spots xs ∨ a = (x.b, 0) := by grind
    rcases this with rfl | ha | rfl
    · simp; omega
    · obtain ⟨y, hy, rfl⟩ := List.mem_map.1 ha
      exact (hbl y hy e).elim
    · exact (hxl e).elim
  have hcx : ∀ b, b ≠ bl → b ≠ bm → b < w.heap.size → ∀ o, o < 2 → w3.cell? ⟨b, o, none⟩ = w.cell? ⟨b, o, none⟩ := by
    intro b hb1 hb2 hb o ho
    refine (m.cell b o fun a ha e => ?_).trans (k2.cell hb hb2)
    have : a = (bl, 1) ∨ a ∈ spots xs ∨ a = (x.b, 0) := by grind
    rcases this with rfl | ha | rfl
    · exact (hb1 e.symm).elim
    · obtain ⟨z, hz, rfl⟩ := List.mem_map.1 ha
      simp; omega
    · simp; omega
  have hrow : ∀ y ∈ xs ++ [x], RowAt w y.b 4 := by
    intro y hy
    rcases List.mem_append.1 hy with hy | hy
    · exact h.row y hy
    · rw [List.mem_singleton.1 hy]; exact hx.row
  have hyl : ∀ y ∈ xs ++ [x], y.b ≠ bl ∧ y.b ≠ bm := by
    intro y hy
    rcases List.mem_append.1 hy with hy | hy
    · exact ⟨hbl y hy, hbm y hy⟩
    · rw [List.mem_singleton.1 hy]; exact ⟨hxl, hxm⟩
  refine ⟨?_, ?_, m.row _ _ (h.head.kept k2 hlm), fun y hy => m.row _ _ ((hrow y hy).kept k2 (hyl y hy).2), (hcl 0 (by omega) (by omega)).trans h.most, (hcl 1 (by omega) (by omega)).trans h.zk,
    (hcl 5 (by omega) (by omega)).trans h.links, ?_, ?_, by simpa [spots] using hl, ht.kept m.kept ?_⟩
  · have hni : x.b ∉ xs.map (·.b) := by
      intro hm
      obtain ⟨y, hy, e⟩ := List.mem_map.1 hm
      exact hxx y hy e
    simp only [List.map_append, List.map_cons, List.map_nil]
    grind
  · have hni : x.k ∉ xs.map (·.k) := by
      intro hm
      obtain ⟨y, hy, e⟩ := List.mem_map.1 hm
      exact hk y hy e
    simp only [List.map_append, List.map_cons, List.map_nil]
    grind
  · intro y hy
    rw [hcx y.b (hyl y hy).1 (hyl y hy).2 (hrow y hy).lt 0 (by omega)]
    rcases List.mem_append.1 hy with hy | hy
    · exact h.key y hy
    · rw [List.mem_singleton.1 hy]; exact hx.key
  · intro y hy
    rw [hcx y.b (hyl y hy).1 (hyl y hy).2 (hrow y hy).lt 1 (by omega)]
    rcases List.mem_append.1 hy with hy | hy
    · exact h.val y hy
    · rw [List.mem_singleton.1 hy]; exact hx.val
  · intro hb
    obtain ⟨a, ha, e⟩ := List.mem_map.1 hb
    have : a = (bl, 1) ∨ a ∈ spots xs ∨ a = (x.b, 0) := by grind
    rcases this with rfl | ha | rfl
    · exact hlm e
    · obtain ⟨y, hy, rfl⟩ := List.mem_map.1 ha
      exact hbm y hy e
    · exact hxm e

/-- What a walk reads of a list: the one that was used longest ago. -/
theorem Lru.first (h : Lru K V zk w bl bm most xs) : nx w (bl, 1) = some (ptr (behind (bl, 1) (spots xs))) := (linked_ends h.linked).2

end
end Go.Proofs.YtdkcnigghcbnpaaGreat

/- The list of chapter 09 as a row of entries: what a put, a use and a drop make of it. Plain Lean. -/
namespace Go.Proofs.YtdkcnigghcbnpaaGreat
set_option linter.unusedVariables false
set_option linter.unusedSimpArgs false
open Go.RowKit Go.MapKept

section
variable {κ ν : Type} [DecidableEq κ]

/-- The entry of a key. -/
def lookE (k : κ) (xs : List (Ent κ ν)) : Option (Ent κ ν) := xs.find? fun x => decide (x.k = k)
/-- The entries of all other keys. -/
def dropE (k : κ) (xs : List (Ent κ ν)) : List (Ent κ ν) := xs.filter fun x => decide (x.k ≠ k)
/-- A key is used. -/
def useE (k : κ) (xs : List (Ent κ ν)) : List (Ent κ ν) :=
  match lookE k xs with
  | some x => dropE k xs ++ [x]
  | none => xs
/-- A key is given a value; nb is the block of a link that is new. -/
def putE (most : Int) (nb : Nat) (k : κ) (v : ν) (xs : List (Ent κ ν)) : List (Ent κ ν) :=
  match lookE k xs with
  | some x => dropE k xs ++ [{ x with v := v }]
  | none => if (xs.length : Int) + 1 ≤ most then xs ++ [⟨nb, k, v⟩] else xs.tail ++ [⟨nb, k, v⟩]
/-- Who goes. -/
def outE (most : Int) (k : κ) (xs : List (Ent κ ν)) : Option κ :=
  match lookE k xs with
  | some _ => none
  | none => if (xs.length : Int) + 1 ≤ most then none else xs.head?.map (·.k)

theorem split_key {xs : List (Ent κ ν)} (hn : (xs.map (·.k)).Nodup) (k : κ) :
    (lookE k xs = none ∧ (∀ x ∈ xs, x.k ≠ k) ∧ dropE k xs = xs) ∨ ∃ l1 x l2, xs = l1 ++ x :: l2 ∧ x.k = k ∧ lookE k xs = some x ∧ dropE k xs = l1 ++ l2 := by
  unfold lookE dropE
  by_cases h : ∃ x ∈ xs, x.k = k
  · obtain ⟨x, hx, e⟩ := h
    obtain ⟨l1, l2, rfl⟩ := List.append_of_mem hx
    have h1 : ∀ y ∈ l1, y.k ≠ k := by
      intro y hy e'
      have : y.k ∈ l1.map (·.k) := List.mem_map_of_mem hy
      simp only [List.map_append, List.map_cons] at hn
      grind
    have h2 : ∀ y ∈ l2, y.k ≠ k := by
      intro y hy e'
      have : y.k ∈ l2.map (·.k) := List.mem_map_of_mem hy
      simp only [List.map_append, List.map_cons] at hn
      grind
    refine .inr ⟨l1, x, l2, rfl, e, ?_, ?_⟩
    · rw [List.find?_append, List.find?_eq_none.2 (by simpa using h1)]
      simp [e]
    · rw [List.filter_append, List.filter_cons_of_neg (by simp [e]), List.filter_eq_self.2 (by simpa using h1), List.filter_eq_self.2 (by simpa using h2)]
  · have h' : ∀ x ∈ xs, x.k ≠ k := fun x hx e => h ⟨x, hx, e⟩
    exact .inl ⟨List.find?_eq_none.2 (by simpa using h'), h', List.filter_eq_self.2 (by simpa using h')⟩

theorem lookE_some {xs : List (Ent κ ν)} {k : κ} {x : Ent κ ν} (h : lookE k xs = some x) : x ∈ xs ∧ x.k = k := by
  unfold lookE at h
  exact ⟨List.mem_of_find?_eq_some h, by simpa using List.find?_some h⟩
theorem lookE_none {xs : List (Ent κ ν)} {k : κ} (h : lookE k xs = none) : ∀ x ∈ xs, x.k ≠ k := by
  unfold lookE at h
  simpa using h
theorem lookE_mem {xs : List (Ent κ ν)} (hn : (xs.map (·.k)).Nodup) {x : Ent κ ν} (hx : x ∈ xs) : lookE x.k xs = some x := by
  rcases split_key hn x.k with ⟨_, h, _⟩ | ⟨l1, y, l2, e, hy, h, _⟩
  · exact (h x hx rfl).elim
  · rw [h, one_of_key hn (by rw [e]; simp) hx hy]

/-- Which blocks a list has behind a step. -/
theorem fp_drop {bl bm : Nat} {xs : List (Ent κ ν)} {k : κ} {b : Nat} (h : Lfp bl bm (dropE k xs) b) : Lfp bl bm xs b := by
  rcases h with h | h | ⟨x, hx, e⟩
  · exact .inl h
  · exact .inr (.inl h)
  · exact .inr (.inr ⟨x, (List.mem_filter.1 hx).1, e⟩)
theorem fp_use {bl bm : Nat} {xs : List (Ent κ ν)} {k : κ} {b : Nat} (h : Lfp bl bm (useE k xs) b) : Lfp bl bm xs b := by
  unfold useE at h
  split at h
  · rename_i x hx
    rcases h with h | h | ⟨y, hy, e⟩
    · exact .inl h
    · exact .inr (.inl h)
    · rcases List.mem_append.1 hy with hy | hy
      · exact .inr (.inr ⟨y, (List.mem_filter.1 hy).1, e⟩)
      · rw [List.mem_singleton.1 hy] at e
        exact .inr (.inr ⟨x, (lookE_some hx).1, e⟩)
  · exact h
theorem fp_put {bl bm : Nat} {xs : List (Ent κ ν)} {most : Int} {nb : Nat} {k : κ} {v : ν} {b : Nat} (h : Lfp bl bm (putE most nb k v xs) b) : Lfp bl bm xs b ∨ b = nb := by
  unfold putE at h
  split at h
  · rename_i x hx
    rcases h with h | h | ⟨y, hy, e⟩
    · exact .inl (.inl h)
    · exact .inl (.inr (.inl h))
    · rcases List.mem_append.1 hy with hy | hy
      · exact .inl (.inr (.inr ⟨y, (List.mem_filter.1 hy).1, e⟩))
      · rw [List.mem_singleton.1 hy] at e
        exact .inl (.inr (.inr ⟨x, (lookE_some hx).1, e⟩))
  · have : ∀ y, y ∈ xs ++ [⟨nb, k, v⟩] ∨ y ∈ xs.tail ++ [⟨nb, k, v⟩] → y.b = b → Lfp bl bm xs b ∨ b = nb := by
      intro y hy e
      have : y ∈ xs ∨ y = ⟨nb, k, v⟩ := by
        have := @List.mem_of_mem_tail _ y xs
        grind
      rcases this with hy | rfl
      · exact .inl (.inr (.inr ⟨y, hy, e⟩))
      · exact .inr e.symm
    rcases h with h | h | ⟨y, hy, e⟩
    · exact .inl (.inl h)
    · exact .inl (.inr (.inl h))
    · split at hy
      · exact this y (.inl hy) e
      · exact this y (.inr hy) e
end

/-- What a call changes in a list of its caller's own, that lies from B on. -/
theorem Kept.own {κ ν : Type} {w0 w w' : World} {B bl bm : Nat} {xs : List (Ent κ ν)} (h : Kept (fun b => B ≤ b) w0 w) (k : Kept (Lfp bl bm xs) w w') (hg : ∀ b, Lfp bl bm xs b → B ≤ b) : Kept (fun b => B ≤ b) w0 w' :=
  h.trans k (fun b _ e => hg b e)
theorem Kept.ownT {w0 w w' : World} {B : Nat} (h : Kept (fun b => B ≤ b) w0 w) (t : Twin w' w) : Kept (fun b => B ≤ b) w0 w' := h.twin t
theorem Kept.none {w w' : World} (h : Kept (fun b => w.heap.size ≤ b) w w') : Kept (fun _ => False) w w' := h.mono (fun k hk e => by omega)
theorem fp_ge_put {κ ν : Type} [DecidableEq κ] {B bl bm nb : Nat} {xs : List (Ent κ ν)} {most : Int} {k : κ} {v : ν} (hg : ∀ b, Lfp bl bm xs b → B ≤ b) (hn : B ≤ nb) : ∀ b, Lfp bl bm (putE most nb k v xs) b → B ≤ b := by
  intro b h
  rcases fp_put h with h | rfl
  · exact hg b h
  · exact hn
theorem fp_ge {κ ν : Type} {B bl bm : Nat} {xs : List (Ent κ ν)} (h1 : B ≤ bl) (h2 : B ≤ bm) (h3 : ∀ x ∈ xs, B ≤ x.b) : ∀ b, Lfp bl bm xs b → B ≤ b := by
  rintro b (rfl | rfl | ⟨y, hy, rfl⟩)
  · exact h1
  · exact h2
  · exact h3 y hy
theorem fp_nil {κ ν : Type} {B bl bm : Nat} (h1 : B ≤ bl) (h2 : B ≤ bm) : ∀ b, Lfp bl bm ([] : List (Ent κ ν)) b → B ≤ b := by
  rintro b (rfl | rfl | ⟨y, hy, _⟩)
  · exact h1
  · exact h2
  · cases hy
end Go.Proofs.YtdkcnigghcbnpaaGreat

/- Two texts, compared byte by byte. -/
namespace Go.Proofs.YtdkcnigghcbnpaaGreat
set_option linter.unusedVariables false
set_option linter.unusedSimpArgs false
open Go.RowKit Go.MapKept

theorem bytes_ne {a b : ByteArray} (h : a ≠ b) : (a.toList == b.toList) = false := by
  rw [← beq_toListBytes]
  cases e : a == b with
  | false => rfl
  | true => exact (h ((bytes_beq a b).1 e)).elim
theorem bytes_self (a : ByteArray) : (a.toList == a.toList) = true := by simp
end Go.Proofs.YtdkcnigghcbnpaaGreat
