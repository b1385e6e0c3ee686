/- A map from keys of a plain kind to pointers, as a table: what a look-up, a store of a new key, a delete and len do to it. No program is named here. -/
import Derived.Test.YtalahbmahpgkeaaMem
import Derived.MapKept
import Derived.RangeFuncRecord
import Derived.Maps.OwnOps
namespace Go.Proofs.Ytalahbmahpgkeaa
set_option linter.unusedVariables false
set_option linter.unusedSimpArgs false
open Go.RowKit Go.MapKept

/-- A kind of keys. -/
structure KeyK (κ : Type) where
  enc : κ → Value
  d : TypeDesc
  is : ∀ k, IsKey d (enc k)
  inj : ∀ a b, enc a = enc b → a = b
def strK : KeyK ByteArray := ⟨.string, .string, fun _ => trivial, fun _ _ h => by injection h⟩
def intK : KeyK Int := ⟨.int .i64, .int .i64, fun _ => rfl, fun _ _ h => by injection h⟩
def u8K : KeyK Int := ⟨.int .u8, .int .u8, fun _ => rfl, fun _ _ h => by injection h⟩

/-- An entry: its link's block, its key, its value. -/
structure Ent (κ ν : Type) where
  b : Nat
  k : κ
  v : ν

section
variable {κ ν : Type} (K : KeyK κ)

/-- Block bm is a map of the entries' keys to their links. -/
def Tab (w : World) (bm : Nat) (xs : List (Ent κ ν)) : Prop :=
  ∃ es clock, w.heap[bm]? = some (.map es clock) ∧ (es.toList.map fun e => (e.key, e.val)).Perm (xs.map fun x => (K.enc x.k, ptr (x.b, 0)))

variable {K} {w w' : World} {bm : Nat} {xs : List (Ent κ ν)}

theorem Tab.lt (h : Tab K w bm xs) : bm < w.heap.size := by
  obtain ⟨es, clock, hb, _⟩ := h
  exact (Array.getElem?_eq_some_iff.1 hb).1
theorem Tab.of_block (h : Tab K w bm xs) (e : w'.heap[bm]? = w.heap[bm]?) : Tab K w' bm xs := by
  obtain ⟨es, clock, hb, hp⟩ := h
  exact ⟨es, clock, e.trans hb, hp⟩
theorem Tab.kept {S : Nat → Prop} (h : Tab K w bm xs) (k : Kept S w w') (hn : ¬ S bm) : Tab K w' bm xs := h.of_block (k.block bm h.lt hn)
theorem Tab.perm {ys : List (Ent κ ν)} (h : Tab K w bm xs) (p : xs.Perm ys) : Tab K w bm ys := by
  obtain ⟨es, clock, hb, hp⟩ := h
  exact ⟨es, clock, hb, hp.trans (p.map _)⟩
/-- The values do not matter to it. -/
theorem Tab.vals {ν' : Type} {ys : List (Ent κ ν')} (h : Tab K w bm xs) (e : (ys.map fun y => (y.k, y.b)) = xs.map fun x => (x.k, x.b)) : Tab K w bm ys := by
  obtain ⟨es, clock, hb, hp⟩ := h
  refine ⟨es, clock, hb, ?_⟩
  have e' := congrArg (List.map fun (q : κ × Nat) => (K.enc q.1, ptr (q.2, 0))) e
  simp only [List.map_map] at e'
  rw [show (fun (x : Ent κ ν') => (K.enc x.k, ptr (x.b, 0))) = (fun (q : κ × Nat) => (K.enc q.1, ptr (q.2, 0))) ∘ fun y => (y.k, y.b) from rfl, e']
  exact hp
theorem tab_new (w : World) : Tab (ν := ν) K (w.alloc (.map #[] 0)) w.heap.size [] := ⟨#[], 0, heap_alloc_new w _, by simp⟩

theorem isKeys {es : Array MapEntry} (hp : (es.toList.map fun e => (e.key, e.val)).Perm (xs.map fun x => (K.enc x.k, ptr (x.b, 0)))) : ∀ e ∈ es.toList, ∃ x ∈ xs, e.key = K.enc x.k ∧ e.val = ptr (x.b, 0) := by
  intro e he
  have h1 := hp.subset (List.mem_map_of_mem (f := fun e => (e.key, e.val)) he)
  obtain ⟨x, hx, h2⟩ := List.mem_map.1 h1
  injection h2 with a b
  exact ⟨x, hx, a.symm, b.symm⟩

theorem tab_find {es : Array MapEntry} (hp : (es.toList.map fun e => (e.key, e.val)).Perm (xs.map fun x => (K.enc x.k, ptr (x.b, 0)))) (k : κ) :
    (Instr.findNow K.d (K.enc k) es.toList 0 = some none ∧ (∀ x ∈ xs, x.k ≠ k)) ∨
    ∃ j e, Instr.findNow K.d (K.enc k) es.toList 0 = some (some (j, e.val)) ∧ es.toList[j]? = some e ∧ e.key = K.enc k ∧ ∃ x ∈ xs, x.k = k ∧ e.val = ptr (x.b, 0) := by
  rcases findNow_spec (K.is k) es.toList 0 (fun e he => by obtain ⟨x, _, h, _⟩ := isKeys hp e he; rw [h]; exact K.is _) with ⟨h1, h2⟩ | ⟨j, e, h1, h2, h3⟩
  · refine .inl ⟨h1, fun x hx hk => ?_⟩
    have := hp.symm.subset (List.mem_map_of_mem (f := fun x => (K.enc x.k, ptr (x.b, 0))) hx)
    obtain ⟨e, he, h4⟩ := List.mem_map.1 this
    injection h4 with a _
    exact h2 e he (by rw [a, hk])
  · refine .inr ⟨j, e, by simpa using h1, h2, h3, ?_⟩
    obtain ⟨x, hx, h4, h5⟩ := isKeys hp e (List.mem_of_getElem? h2)
    exact ⟨x, hx, K.inj _ _ (by rw [← h4, h3]), h5⟩

theorem one_of_key (hn : (xs.map (·.k)).Nodup) {x y : Ent κ ν} (hx : x ∈ xs) (hy : y ∈ xs) (e : x.k = y.k) : x = y := by
  induction xs with
  | nil => cases hx
  | cons c l ih =>
    simp only [List.map_cons, List.nodup_cons, List.mem_map] at hn
    rcases List.mem_cons.1 hx with h1 | h1
    · rcases List.mem_cons.1 hy with h2 | h2
      · rw [h1, h2]
      · exact (hn.1 ⟨y, h2, by rw [← e, h1]⟩).elim
    · rcases List.mem_cons.1 hy with h2 | h2
      · exact (hn.1 ⟨x, h1, by rw [e, h2]⟩).elim
      · exact ih hn.2 h1 h2

section
variable {P : Program} {t kt et ty : TypeId}

theorem run_lookup_hit (ht : P.underlying t = some (.map kt et)) (hd : P.underlying kt = some K.d) (h : Tab K w bm xs) (hn : (xs.map (·.k)).Nodup) {x : Ent κ ν} (hx : x ∈ xs) (ok : Bool) :
    (Instr.lookup t (.map (some bm)) (K.enc x.k) ok).run P w = .ok (if ok then .tuple #[ptr (x.b, 0), .bool true] else ptr (x.b, 0)) w := by
  obtain ⟨es, clock, hb, hp⟩ := h
  rcases tab_find hp x.k with ⟨_, h2⟩ | ⟨j, e, h1, _, _, y, hy, h4, h5⟩
  · exact (h2 x hx rfl).elim
  · have := one_of_key hn hy hx h4
    subst this
    simp only [Instr.lookup, Sem.run_bind, Sem.run_pure, run_underlying ht, Result.andThen, MapKept.run_getObj_map hb, run_checkKey hd (K.is _), MapKept.run_findKey hd h1, h5]

theorem run_lookup_miss (ht : P.underlying t = some (.map kt et)) (hd : P.underlying kt = some K.d) (h : Tab K w bm xs) {k : κ} (hx : ∀ x ∈ xs, x.k ≠ k) (ok : Bool) (hz : (zeroValue et).run P w = .ok (.pointer none) w) :
    (Instr.lookup t (.map (some bm)) (K.enc k) ok).run P w = .ok (if ok then .tuple #[.pointer none, .bool false] else .pointer none) w := by
  obtain ⟨es, clock, hb, hp⟩ := h
  rcases tab_find hp k with ⟨h1, _⟩ | ⟨j, e, _, _, _, y, hy, h4, _⟩
  · simp only [Instr.lookup, Sem.run_bind, Sem.run_pure, run_underlying ht, Result.andThen, MapKept.run_getObj_map hb, run_checkKey hd (K.is _), MapKept.run_findKey hd h1, hz]
  · exact (hx y hy h4).elim

theorem run_update_new (ht : P.underlying t = some (.map kt et)) (hd : P.underlying kt = some K.d) (h : Tab K w bm xs) {x : Ent κ ν} (hx : ∀ y ∈ xs, y.k ≠ x.k) :
    ∃ w1, (Instr.mapUpdate t (.map (some bm)) (K.enc x.k) (ptr (x.b, 0))).run P w = .ok () w1 ∧ Tab K w1 bm (xs ++ [x]) ∧ Kept (fun b => b = bm) w w1 ∧ w1.heap.size = w.heap.size := by
  obtain ⟨es, clock, hb, hp⟩ := h
  rcases tab_find hp x.k with ⟨h1, _⟩ | ⟨j, e, _, _, _, y, hy, h4, _⟩
  · refine ⟨w.putObj bm (.map (es.push { key := K.enc x.k, val := ptr (x.b, 0), born := clock }) (clock + 1)), ?_, ⟨_, _, World.putObj_heap_same (Array.getElem?_eq_some_iff.1 hb).1, ?_⟩, ⟨rfl, rfl, rfl, by simp, fun k _ hn => World.putObj_heap_other hn⟩, by simp⟩
    · simp only [Instr.mapUpdate, Sem.run_bind, Sem.run_pure, run_underlying ht, Result.andThen, MapKept.run_getObj_map hb, run_checkKey hd (K.is _), MapKept.run_findKey hd h1, run_setObj_map _ hb]
      rfl
    · simp only [Array.toList_push, List.map_append, List.map_cons, List.map_nil]
      exact hp.append_right _
  · exact (hx y hy h4).elim

theorem run_len (ht : P.underlying t = some (.map kt et)) (h : Tab K w bm xs) : (Builtin.len_ #[t] ty #[.map (some bm)]).run P w = .ok (.int .i64 xs.length) w := by
  obtain ⟨es, clock, hb, hp⟩ := h
  have hl : es.size = xs.length := by simpa using hp.length_eq
  simp [Builtin.len_, run_underlying ht, Result.andThen, MapKept.run_getObj_map hb, goInt, hl, Sem.run]

theorem run_delete_hit (ht : P.underlying t = some (.map kt et)) (hd : P.underlying kt = some K.d) (l1 l2 : List (Ent κ ν)) (x : Ent κ ν) (h : Tab K w bm (l1 ++ x :: l2)) (hn : ((l1 ++ x :: l2).map (·.k)).Nodup) (tk : TypeId) :
    ∃ w1, (Builtin.delete_ #[t, tk] ty #[.map (some bm), K.enc x.k]).run P w = .ok (.tuple #[]) w1 ∧ Tab K w1 bm (l1 ++ l2) ∧ Kept (fun b => b = bm) w w1 ∧ w1.heap.size = w.heap.size := by
  obtain ⟨es, clock, hb, hp⟩ := h
  rcases tab_find hp x.k with ⟨_, h2⟩ | ⟨j, e, h1, hj, hk, y, hy, h4, h5⟩
  · exact (h2 x (by simp) rfl).elim
  · have hyx := one_of_key hn hy (by simp : x ∈ l1 ++ x :: l2) h4
    subst hyx
    have hlt : j < es.size := by
      have := (List.getElem?_eq_some_iff.1 hj).1
      simpa using this
    refine ⟨w.putObj bm (.map (es.eraseIdxIfInBounds j) clock), ?_, ⟨_, _, World.putObj_heap_same (Array.getElem?_eq_some_iff.1 hb).1, ?_⟩, ⟨rfl, rfl, rfl, by simp, fun k _ hn => World.putObj_heap_other hn⟩, by simp⟩
    · simp only [Builtin.delete_, Sem.run_bind, Sem.run_pure, run_underlying ht, Result.andThen]
      simp [run_underlying ht, Result.andThen, MapKept.run_getObj_map hb, run_checkKey hd (K.is _), MapKept.run_findKey hd h1, run_setObj_map _ hb, Sem.run, World.putObj]
    · obtain ⟨A, B, e1, e2⟩ : ∃ A B, es.toList = A ++ e :: B ∧ (es.eraseIdxIfInBounds j).toList = A ++ B := by
        refine ⟨es.toList.take j, es.toList.drop (j + 1), ?_, ?_⟩
        · have := List.getElem?_eq_some_iff.1 hj
          obtain ⟨hl, he⟩ := this
          rw [← he, List.getElem_cons_drop, List.take_append_drop]
        · unfold Array.eraseIdxIfInBounds
          rw [dif_pos hlt]
          simp [List.eraseIdx_eq_take_drop_succ]
      rw [e2]
      rw [e1] at hp
      simp only [List.map_append, List.map_cons] at hp ⊢
      rw [hk, h5] at hp
      exact (List.perm_middle.symm.trans (hp.trans List.perm_middle)).cons_inv
end
end
end Go.Proofs.Ytalahbmahpgkeaa
