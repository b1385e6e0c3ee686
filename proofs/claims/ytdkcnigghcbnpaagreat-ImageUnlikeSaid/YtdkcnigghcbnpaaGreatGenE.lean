/- What stands under the walks, part E. -/
import Derived.Test.YtdkcnigghcbnpaaGreatTexts
import Derived.Deep.Slices
import Derived.Deep.Fields
import Derived.ChangeSame
/- Arguments in memory: slices of structs of one-cell fields. -/
namespace Go.Proofs.YtdkcnigghcbnpaaGreat
set_option linter.unusedVariables false
set_option linter.unusedSimpArgs false
open Go.ChangeShapes Go.WideShapes Go.Deep

section
variable {H : Type} {enc : TypeId × Value → H} {P : Program} {w : World} {base : Nat} {spare : Nat → Bool} {held : Bool}
theorem open_slice_fields {t e : TypeId} {fs : Array Field} {fuel : Nat} {cs : List Value} {x : DataW H × List MemPlace} (ht : P.underlying t = some (.slice e)) (he : P.underlying e = some (.struct fs))
    (hone : oneCellFields P fs = true) (hC : P.cellsOf e = fs.size) (h : DataW.trod enc P w base spare held fuel t cs = some x) :
    (cs = [.slice none 0 0] ∧ x = (.nil, [])) ∨
    ∃ (a : Addr) (len cap m : Nat) (D : Nat → DataW H) (Pl : Nat → List MemPlace), cs = [.slice (some a) len cap] ∧ base ≤ a.block ∧ len ≤ cap ∧ cap ≤ maxLen ∧ m = (if spare a.block then cap else len) ∧
      x = (.slice ((List.range len).map D) ((List.range (m - len)).map fun j => D (len + j)), MemPlace.row a (m * fs.size) ++ (List.range m).flatMap Pl) ∧
      ∀ i, i < m → ∃ (ys : List (DataW H × List MemPlace)) (n : Nat), D i = .agg (ys.map (·.1)) ∧ Pl i = ys.flatMap (·.2) ∧ ys.length = fs.size ∧
        ∀ (j : Nat) (f : Field), fs[j]? = some f → ∃ (v : Value) (y : DataW H × List MemPlace), w.cell? (a.add (i * fs.size + j)) = some v ∧ ys[j]? = some y ∧ DataW.trod enc P w base spare held n f.type [v] = some y := by
  rcases open_slice ht h with h0 | ⟨a, len, cap, m, n, D, Pl, hcs, hb, hl, hm, hmm, hx, hi⟩
  · exact .inl h0
  · refine .inr ⟨a, len, cap, m, D, Pl, hcs, hb, hl, hm, hmm, by rw [hC] at hx; exact hx, fun i him => ?_⟩
    obtain ⟨cs', hc, ht'⟩ := hi i him
    rw [hC] at hc
    obtain ⟨ys, n', hn', hy, hlen, hyl, hf⟩ := DataW.trod_struct he ht'
    obtain ⟨_, hcl, hat⟩ := World.cells?_some hc
    simp only [Prod.mk.injEq] at hy
    refine ⟨ys, n', hy.1, hy.2, hyl, fun j f hj => ?_⟩
    obtain ⟨ho, hk⟩ := hone_of hone j f hj
    have hjl : j < fs.size := (Array.getElem?_eq_some_iff.1 hj).1
    have hcell := hat j hjl
    have hv : cs'[j]? = some (cs'[j]'(by omega)) := List.getElem?_eq_getElem (by omega)
    have h1 := hf j f hj
    rw [ho, hk] at h1
    have hone' : (cs'.drop j).take 1 = [cs'[j]'(by omega)] := by
      rw [List.drop_eq_getElem_cons (by omega)]
      rfl
    rw [hone'] at h1
    have hys : ys[j]? = some (ys[j]'(by omega)) := List.getElem?_eq_getElem (by omega)
    refine ⟨_, _, ?_, hys, h1.trans hys⟩
    rw [← Go.Deep.add_add, hcell, hv]
end

/-- A slice of steps (a number, a text, a number) in memory. -/
def Steps3 (w : World) (a : Option Addr) (n : Nat) (kd vs : Nat → Int) (ss : Nat → ByteArray) : Prop :=
  ∀ i, i < n → ∃ b o, a = some ⟨b, o, none⟩ ∧ b < w.heap.size ∧ w.cell? ⟨b, o + i * 3, none⟩ = some (.int .i64 (kd i)) ∧ w.cell? ⟨b, o + i * 3 + 1, none⟩ = some (.string (ss i)) ∧ w.cell? ⟨b, o + i * 3 + 2, none⟩ = some (.int .i64 (vs i)) ∧ (ss i).size ≤ 9223372036854775807

theorem add_flat (b o k : Nat) : (⟨b, o, none⟩ : Addr).add k = ⟨b, o + k, none⟩ := by unfold Addr.add; split <;> simp_all

theorem steps3_of {H : Type} {enc : TypeId × Value → H} {P : Program} {w : World} {base : Nat} {spare : Nat → Bool} {held : Bool} {t e : TypeId} {fs : Array Field} {fuel : Nat} {a : Option Addr} {n c : Nat} {x : DataW H × List MemPlace}
    (ht : P.underlying t = some (.slice e)) (he : P.underlying e = some (.struct fs)) (hone : oneCellFields P fs = true) (hC : P.cellsOf e = fs.size) {f0 f1 f2 : Field} (hfs : fs = #[f0, f1, f2])
    (h0 : P.underlying f0.type = some (.int .i64)) (h1 : P.underlying f1.type = some .string) (h2 : P.underlying f2.type = some (.int .i64))
    (h : DataW.trod enc P w base spare held fuel t [.slice a n c] = some x) :
    ∃ kd vs ss, Steps3 w a n kd vs ss ∧ n ≤ 9223372036854775807 := by
  rcases open_slice_fields ht he hone hC h with ⟨hcs, _⟩ | ⟨a', len, cap, m, D, Pl, hcs, hb, hl, hm, hmm, hx, hi⟩
  · simp only [List.cons.injEq, Value.slice.injEq, and_true] at hcs
    obtain ⟨rfl, rfl, rfl⟩ := hcs
    exact ⟨fun _ => 0, fun _ => 0, fun _ => ByteArray.empty, fun i hi => by omega, by omega⟩
  · simp only [List.cons.injEq, Value.slice.injEq, and_true] at hcs
    obtain ⟨rfl, rfl, rfl⟩ := hcs
    subst hfs
    have hnm : n ≤ m := by rw [hmm]; split <;> omega
    have key : ∀ i, i < n → ∃ (k v : Int) (s : ByteArray) (b o : Nat), a' = ⟨b, o, none⟩ ∧ b < w.heap.size ∧ w.cell? ⟨b, o + i * 3, none⟩ = some (.int .i64 k) ∧ w.cell? ⟨b, o + i * 3 + 1, none⟩ = some (.string s) ∧ w.cell? ⟨b, o + i * 3 + 2, none⟩ = some (.int .i64 v) ∧ s.size ≤ 9223372036854775807 := by
      intro i hin
      obtain ⟨ys, n', _, _, _, hf⟩ := hi i (by omega)
      obtain ⟨v0, y0, c0, _, t0⟩ := hf 0 f0 rfl
      obtain ⟨v1, y1, c1, _, t1⟩ := hf 1 f1 rfl
      obtain ⟨v2, y2, c2, _, t2⟩ := hf 2 f2 rfl
      obtain ⟨k, e0, _, _⟩ := DataW.trod_int h0 t0
      obtain ⟨s, e1, _, hs1⟩ := DataW.trod_string h1 t1
      obtain ⟨v, e2, _, _⟩ := DataW.trod_int h2 t2
      simp only [List.cons.injEq, and_true] at e0 e1 e2
      subst e0; subst e1; subst e2
      obtain ⟨b, o, sp⟩ := a'
      obtain ⟨ys0, n0, _, _, _, hf0⟩ := hi 0 (by omega)
      obtain ⟨v00, y00, c00, _, _⟩ := hf0 0 f0 rfl
      have hsp : sp = none := by simpa [Addr.add] using World.cell?_spot c00
      subst hsp
      rw [add_flat] at c0 c1 c2
      simp only [List.size_toArray, List.length_cons, List.length_nil, Nat.reduceAdd, Nat.add_zero, ← Nat.add_assoc] at c0 c1 c2
      refine ⟨k, v, s, b, o, rfl, World.block_lt_of_cell? w _ c0, c0, c1, c2, ?_⟩
      unfold maxLen at hs1
      omega
    have kc : ∀ i, ∃ (k v : Int) (s : ByteArray), i < n → ∃ b o, some a' = some ⟨b, o, none⟩ ∧ b < w.heap.size ∧ w.cell? ⟨b, o + i * 3, none⟩ = some (.int .i64 k) ∧ w.cell? ⟨b, o + i * 3 + 1, none⟩ = some (.string s) ∧ w.cell? ⟨b, o + i * 3 + 2, none⟩ = some (.int .i64 v) ∧ s.size ≤ 9223372036854775807 := by
      intro i
      by_cases hin : i < n
      · obtain ⟨k, v, s, b, o, rfl, hr⟩ := key i hin
        exact ⟨k, v, s, fun _ => ⟨b, o, rfl, hr⟩⟩
      · exact ⟨0, 0, ByteArray.empty, fun h => absurd h hin⟩
    refine ⟨fun i => (kc i).choose, fun i => (kc i).choose_spec.choose, fun i => (kc i).choose_spec.choose_spec.choose, fun i hin => (kc i).choose_spec.choose_spec.choose_spec hin, ?_⟩
    unfold maxLen at hm
    omega
end Go.Proofs.YtdkcnigghcbnpaaGreat

/- Arguments in memory: steps on a table (a number, two texts, a number, three bits). -/
namespace Go.Proofs.YtdkcnigghcbnpaaGreat
set_option linter.unusedVariables false
set_option linter.unusedSimpArgs false
open Go.ChangeShapes Go.WideShapes Go.Deep

structure St7 where
  kd : Int
  k : ByteArray
  v : ByteArray
  fl : Int
  wr : Bool
  rw : Bool
  kp : Bool
/-- A step's cells. -/
structure StAt (w : World) (b o : Nat) (s : St7) : Prop where
  c0 : w.cell? ⟨b, o, none⟩ = some (.int .i64 s.kd)
  c1 : w.cell? ⟨b, o + 1, none⟩ = some (.string s.k)
  c2 : w.cell? ⟨b, o + 2, none⟩ = some (.string s.v)
  c3 : w.cell? ⟨b, o + 3, none⟩ = some (.int .i64 s.fl)
  c4 : w.cell? ⟨b, o + 4, none⟩ = some (.bool s.wr)
  c5 : w.cell? ⟨b, o + 5, none⟩ = some (.bool s.rw)
  c6 : w.cell? ⟨b, o + 6, none⟩ = some (.bool s.kp)
  sk : s.k.size ≤ 9223372036854775807
  sv : s.v.size ≤ 9223372036854775807
def Steps7 (w : World) (a : Option Addr) (n : Nat) (ss : Nat → St7) : Prop := ∀ i, i < n → ∃ b o, a = some ⟨b, o, none⟩ ∧ b < w.heap.size ∧ StAt w b (o + i * 7) (ss i)
theorem StAt.kept {S : Nat → Prop} {w w' : World} {b o : Nat} {s : St7} (h : StAt w b o s) (hb : b < w.heap.size) (k : Kept S w w') (hS : ¬ S b) : StAt w' b o s :=
  ⟨(k.cell (p := ⟨b, o, none⟩) hb hS).trans h.c0, (k.cell (p := ⟨b, o + 1, none⟩) hb hS).trans h.c1, (k.cell (p := ⟨b, o + 2, none⟩) hb hS).trans h.c2, (k.cell (p := ⟨b, o + 3, none⟩) hb hS).trans h.c3, (k.cell (p := ⟨b, o + 4, none⟩) hb hS).trans h.c4, (k.cell (p := ⟨b, o + 5, none⟩) hb hS).trans h.c5, (k.cell (p := ⟨b, o + 6, none⟩) hb hS).trans h.c6, h.sk, h.sv⟩

theorem steps7_of {H : Type} {enc : TypeId × Value → H} {P : Program} {w : World} {base : Nat} {spare : Nat → Bool} {held : Bool} {t e : TypeId} {fs : Array Field} {fuel : Nat} {a : Option Addr} {n c : Nat} {x : DataW H × List MemPlace}
    (ht : P.underlying t = some (.slice e)) (he : P.underlying e = some (.struct fs)) (hone : oneCellFields P fs = true) (hC : P.cellsOf e = fs.size) {f0 f1 f2 f3 f4 f5 f6 : Field} (hfs : fs = #[f0, f1, f2, f3, f4, f5, f6])
    (h0 : P.underlying f0.type = some (.int .i64)) (h1 : P.underlying f1.type = some .string) (h2 : P.underlying f2.type = some .string) (h3 : P.underlying f3.type = some (.int .i64)) (h4 : P.underlying f4.type = some .bool) (h5 : P.underlying f5.type = some .bool) (h6 : P.underlying f6.type = some .bool)
    (h : DataW.trod enc P w base spare held fuel t [.slice a n c] = some x) :
    ∃ ss, Steps7 w a n ss ∧ n ≤ 9223372036854775807 := by
  rcases open_slice_fields ht he hone hC h with ⟨hcs, _⟩ | ⟨a', len, cap, m, D, Pl, hcs, hb, hl, hm, hmm, hx, hi⟩
  · simp only [List.cons.injEq, Value.slice.injEq, and_true] at hcs
    obtain ⟨rfl, rfl, rfl⟩ := hcs
    exact ⟨fun _ => ⟨0, ByteArray.empty, ByteArray.empty, 0, false, false, false⟩, fun i hi => by omega, by omega⟩
  · simp only [List.cons.injEq, Value.slice.injEq, and_true] at hcs
    obtain ⟨rfl, rfl, rfl⟩ := hcs
    subst hfs
    have hnm : n ≤ m := by rw [hmm]; split <;> omega
    have key : ∀ i, ∃ s : St7, i < n → ∃ b o, some a' = some ⟨b, o, none⟩ ∧ b < w.heap.size ∧ StAt w b (o + i * 7) s := by
      intro i
      by_cases hin : i < n
      · obtain ⟨ys, n', _, _, _, hf⟩ := hi i (by omega)
        obtain ⟨v0, y0, c0, _, t0⟩ := hf 0 f0 rfl
        obtain ⟨v1, y1, c1, _, t1⟩ := hf 1 f1 rfl
        obtain ⟨v2, y2, c2, _, t2⟩ := hf 2 f2 rfl
        obtain ⟨v3, y3, c3, _, t3⟩ := hf 3 f3 rfl
        obtain ⟨v4, y4, c4, _, t4⟩ := hf 4 f4 rfl
        obtain ⟨v5, y5, c5, _, t5⟩ := hf 5 f5 rfl
        obtain ⟨v6, y6, c6, _, t6⟩ := hf 6 f6 rfl
        obtain ⟨z0, e0, _, _⟩ := DataW.trod_int h0 t0
        obtain ⟨z1, e1, _, hs1⟩ := DataW.trod_string h1 t1
        obtain ⟨z2, e2, _, hs2⟩ := DataW.trod_string h2 t2
        obtain ⟨z3, e3, _, _⟩ := DataW.trod_int h3 t3
        obtain ⟨z4, e4, _⟩ := DataW.trod_bool h4 t4
        obtain ⟨z5, e5, _⟩ := DataW.trod_bool h5 t5
        obtain ⟨z6, e6, _⟩ := DataW.trod_bool h6 t6
        simp only [List.cons.injEq, and_true] at e0 e1 e2 e3 e4 e5 e6
        subst e0; subst e1; subst e2; subst e3; subst e4; subst e5; subst e6
        obtain ⟨b, o, sp⟩ := a'
        obtain ⟨ys0, n0, _, _, _, hf0⟩ := hi 0 (by omega)
        obtain ⟨v00, y00, c00, _, _⟩ := hf0 0 f0 rfl
        have hsp : sp = none := by simpa [Addr.add] using World.cell?_spot c00
        subst hsp
        rw [add_flat] at c0 c1 c2 c3 c4 c5 c6
        simp only [List.size_toArray, List.length_cons, List.length_nil, Nat.reduceAdd, Nat.add_zero, ← Nat.add_assoc] at c0 c1 c2 c3 c4 c5 c6
        unfold maxLen at hs1 hs2
        exact ⟨⟨z0, z1, z2, z3, z4, z5, z6⟩, fun _ => ⟨b, o, rfl, World.block_lt_of_cell? w _ c0, ⟨c0, c1, c2, c3, c4, c5, c6, hs1, hs2⟩⟩⟩
      · exact ⟨⟨0, ByteArray.empty, ByteArray.empty, 0, false, false, false⟩, fun h => absurd h hin⟩
    refine ⟨fun i => (key i).choose, fun i hin => (key i).choose_spec hin, ?_⟩
    unfold maxLen at hm
    omega
end Go.Proofs.YtdkcnigghcbnpaaGreat
