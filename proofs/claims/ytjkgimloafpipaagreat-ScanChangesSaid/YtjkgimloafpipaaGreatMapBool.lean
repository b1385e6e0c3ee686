/- A map from texts to Bools. No program is named here. -/
import Derived.Test.YtjkgimloafpipaaGreatGenA
import Derived.MapKept
import Derived.RangeFuncRecord
import Derived.Maps.OwnOps
namespace Go.Proofs.YtjkgimloafpipaaGreat
set_option linter.unusedVariables false
set_option linter.unusedSimpArgs false
open Go.RowKit Go.MapKept

/-- Block bm is a map with these values. -/
def MapB (w : World) (bm : Nat) (g : ByteArray → Option Bool) : Prop :=
  ∃ es clock, w.heap[bm]? = some (.map es clock) ∧ (∀ e ∈ es.toList, ∃ k v, e.key = .string k ∧ e.val = .bool v ∧ g k = some v) ∧ (∀ k v, g k = some v → ∃ e ∈ es.toList, e.key = .string k) ∧ (es.toList.map (·.key)).Nodup
/-- One value more, or another one. -/
def setG (g : ByteArray → Option Bool) (k : ByteArray) (v : Bool) (j : ByteArray) : Option Bool := if j = k then some v else g j
theorem setG_same (g : ByteArray → Option Bool) (k : ByteArray) (v : Bool) : setG g k v k = some v := if_pos rfl
theorem setG_other {g : ByteArray → Option Bool} {k j : ByteArray} {v : Bool} (h : ¬ j = k) : setG g k v j = g j := if_neg h
theorem modify_same {α : Type} (l : List α) (j : Nat) (f : α → α) : (l.modify j f)[j]? = l[j]?.map f := by simp [List.getElem?_modify]
theorem modify_other {α : Type} (l : List α) {i j : Nat} (f : α → α) (h : ¬ j = i) : (l.modify j f)[i]? = l[i]? := by simp [List.getElem?_modify, h]
section
variable {w w' : World} {bm : Nat} {g : ByteArray → Option Bool}
theorem MapB.lt (h : MapB w bm g) : bm < w.heap.size := by
  obtain ⟨es, clock, hb, _⟩ := h
  exact (Array.getElem?_eq_some_iff.1 hb).1
theorem MapB.kept {S : Nat → Prop} (h : MapB w bm g) (k : Kept S w w') (hn : ¬ S bm) : MapB w' bm g := by
  have hl := h.lt
  obtain ⟨es, clock, hb, h2⟩ := h
  exact ⟨es, clock, (k.block bm hl hn).trans hb, h2⟩
theorem mapB_new (w : World) : MapB (w.alloc (.map #[] 0)) w.heap.size (fun _ => none) := ⟨#[], 0, heap_alloc_new w _, (fun _ h => by simp at h), (fun _ _ h => by cases h), by simp⟩
theorem MapB.congr {g' : ByteArray → Option Bool} (h : MapB w bm g) (e : ∀ k, g k = g' k) : MapB w bm g' := by
  have : g = g' := funext e
  rw [← this]
  exact h
theorem mapB_find {es : Array MapEntry} (h1 : ∀ e ∈ es.toList, ∃ k v, e.key = .string k ∧ e.val = .bool v ∧ g k = some v) (h2 : ∀ k v, g k = some v → ∃ e ∈ es.toList, e.key = .string k) (k : ByteArray) :
    (Instr.findNow .string (.string k) es.toList 0 = some none ∧ g k = none ∧ ∀ e ∈ es.toList, e.key ≠ .string k) ∨
    ∃ j e v, Instr.findNow .string (.string k) es.toList 0 = some (some (j, e.val)) ∧ es.toList[j]? = some e ∧ e.key = .string k ∧ e.val = .bool v ∧ g k = some v := by
  rcases findNow_spec (d := .string) (k := .string k) trivial es.toList 0 (fun e he => by obtain ⟨k', v, e', -⟩ := h1 e he; rw [e']; trivial) with ⟨h3, h4⟩ | ⟨j, e, h3, h4, h5⟩
  · refine .inl ⟨h3, ?_, h4⟩
    cases hg : g k with
    | none => rfl
    | some v =>
      obtain ⟨e, he, hk⟩ := h2 k v hg
      exact (h4 e he hk).elim
  · obtain ⟨k', v, e1, e2, e3⟩ := h1 e (List.mem_of_getElem? h4)
    rw [h5] at e1
    injection e1 with e1
    subst e1
    exact .inr ⟨j, e, v, by simpa using h3, h4, h5, e2, e3⟩
section
variable {P : Program} {t kt et : TypeId}
theorem run_lookupB (ht : P.underlying t = some (.map kt et)) (hd : P.underlying kt = some .string) (hz : ∀ w, (zeroValue et).run P w = .ok (.bool false) w) (h : MapB w bm g) (k : ByteArray) :
    (Instr.lookup t (.map (some bm)) (.string k) false).run P w = .ok (.bool ((g k).getD false)) w := by
  obtain ⟨es, clock, hb, h1, h2, -⟩ := h
  rcases mapB_find h1 h2 k with ⟨h3, hg, -⟩ | ⟨j, e, v, h3, -, -, hv, hg⟩
  · simp only [Instr.lookup, Sem.run_bind, Sem.run_pure, run_underlying ht, Result.andThen, MapKept.run_getObj_map hb, run_checkKey hd (k := .string k) trivial, MapKept.run_findKey hd h3, hz, hg]
    rfl
  · simp only [Instr.lookup, Sem.run_bind, Sem.run_pure, run_underlying ht, Result.andThen, MapKept.run_getObj_map hb, run_checkKey hd (k := .string k) trivial, MapKept.run_findKey hd h3, hv, hg]
    rfl
theorem run_updateB (ht : P.underlying t = some (.map kt et)) (hd : P.underlying kt = some .string) (h : MapB w bm g) (k : ByteArray) (v : Bool) :
    ∃ w1, (Instr.mapUpdate t (.map (some bm)) (.string k) (.bool v)).run P w = .ok () w1 ∧ MapB w1 bm (setG g k v) ∧ Kept (fun b => b = bm) w w1 ∧ w1.heap.size = w.heap.size := by
  obtain ⟨es, clock, hb, h1, h2, hn⟩ := h
  have hlt := (Array.getElem?_eq_some_iff.1 hb).1
  rcases mapB_find h1 h2 k with ⟨h3, hg, hno⟩ | ⟨j, e, v0, h3, hj, hk, hv, hg⟩
  · refine ⟨w.putObj bm (.map (es.push { key := .string k, val := .bool v, born := clock }) (clock + 1)), ?_, ⟨_, _, World.putObj_heap_same hlt, fun x hx => ?_, fun k' v' hk' => ?_, ?_⟩, ⟨rfl, rfl, rfl, by simp, fun k _ hn => World.putObj_heap_other hn⟩, by simp⟩
    · simp only [Instr.mapUpdate, Sem.run_bind, Sem.run_pure, run_underlying ht, Result.andThen, MapKept.run_getObj_map hb, run_checkKey hd (k := .string k) trivial, MapKept.run_findKey hd h3, run_setObj_map _ hb]
      rfl
    · simp only [Array.toList_push, List.mem_append, List.mem_singleton] at hx
      rcases hx with hx | rfl
      · obtain ⟨k', v', e1, e2, e3⟩ := h1 x hx
        refine ⟨k', v', e1, e2, ?_⟩
        rw [setG_other (fun e => hno x hx (by rw [e1, e])), e3]
      · exact ⟨k, v, rfl, rfl, setG_same g k v⟩
    · simp only [Array.toList_push, List.mem_append, List.mem_singleton]
      by_cases e : k' = k
      · subst e
        exact ⟨_, .inr rfl, rfl⟩
      · rw [setG_other e] at hk'
        obtain ⟨x, hx, e1⟩ := h2 k' v' hk'
        exact ⟨x, .inl hx, e1⟩
    · simp only [Array.toList_push, List.map_append, List.map_cons, List.map_nil]
      rw [List.nodup_append]
      refine ⟨hn, by simp, fun a ha b hb e => ?_⟩
      obtain ⟨x, hx, rfl⟩ := List.mem_map.1 ha
      rw [List.mem_singleton] at hb
      exact hno x hx (by rw [e, hb])
  · have hj' : es[j]? = some e := by simpa using hj
    refine ⟨w.putObj bm (.map (es.modify j fun e => { e with key := .string k, val := .bool v }) clock), ?_, ⟨_, _, World.putObj_heap_same hlt, fun x hx => ?_, fun k' v' hk' => ?_, ?_⟩, ⟨rfl, rfl, rfl, by simp, fun k _ hn => World.putObj_heap_other hn⟩, by simp⟩
    · simp [Instr.mapUpdate, run_underlying ht, MapKept.run_getObj_map hb, run_checkKey hd (k := .string k) trivial, MapKept.run_findKey hd h3, hj', hk, run_keyThatStays (d := .string) (k := .string k) trivial, run_setObj_map _ hb, Result.andThen, World.putObj]
    · rw [Array.toList_modify] at hx
      obtain ⟨i, hi⟩ := List.mem_iff_getElem?.1 hx
      by_cases hij : j = i
      · subst hij
        rw [modify_same, hj] at hi
        simp only [Option.map_some, Option.some.injEq] at hi
        subst hi
        exact ⟨k, v, rfl, rfl, setG_same g k v⟩
      · rw [modify_other _ _ hij] at hi
        obtain ⟨k', v', e1, e2, e3⟩ := h1 x (List.mem_of_getElem? hi)
        refine ⟨k', v', e1, e2, ?_⟩
        rw [setG_other (fun e => ?_), e3]
        have hi2 : (es.toList.map (·.key))[i]? = some (.string k) := by rw [List.getElem?_map, hi, Option.map_some, e1, e]
        have hj2 : (es.toList.map (·.key))[j]? = some (.string k) := by rw [List.getElem?_map, hj, Option.map_some, hk]
        obtain ⟨a1, a2⟩ := List.getElem?_eq_some_iff.1 hi2
        obtain ⟨b1, b2⟩ := List.getElem?_eq_some_iff.1 hj2
        exact hij ((List.getElem_inj hn).1 (b2.trans a2.symm))
    · rw [Array.toList_modify]
      by_cases e' : k' = k
      · subst e'
        refine ⟨{ e with key := .string k', val := .bool v }, List.mem_of_getElem? (i := j) ?_, rfl⟩
        rw [modify_same, hj]
        rfl
      · rw [setG_other e'] at hk'
        obtain ⟨x, hx, e1⟩ := h2 k' v' hk'
        obtain ⟨i, hi⟩ := List.mem_iff_getElem?.1 hx
        have hij : ¬ j = i := fun h => by
          subst h
          rw [hj] at hi
          injection hi with hi
          rw [← hi, hk] at e1
          injection e1 with e1
          exact e' e1.symm
        exact ⟨x, List.mem_of_getElem? (i := i) (by rw [modify_other _ _ hij, hi]), e1⟩
    · have : ((es.modify j fun e => { e with key := .string k, val := .bool v }).toList.map (·.key)) = es.toList.map (·.key) := by
        rw [Array.toList_modify]
        refine List.ext_getElem? fun i => ?_
        rw [List.getElem?_map, List.getElem?_map]
        by_cases hij : j = i
        · subst hij
          rw [modify_same, hj]
          show some (Value.string k) = some e.key
          rw [hk]
        · rw [modify_other _ _ hij]
      rw [this]
      exact hn
end
end
end Go.Proofs.YtjkgimloafpipaaGreat
