/- Copies of bytes: into an entry, and cloned. -/
import Derived.Test.YtdkcnigghcbnpaaGreatLookup
import Derived.Laws.IdiomCopy
import Derived.Lib.SliceRun
namespace Go.Proofs.YtdkcnigghcbnpaaGreat
set_option linter.unusedVariables false
set_option linter.unusedSimpArgs false
open Go.RowKit Go.MapKept

theorem kept_setCells (b : Nat) : ∀ (vs : List Value) (o : Nat) (w : World), Kept (fun k => k = b) w (w.setCells b o vs)
  | [], o, w => .refl _ _
  | v :: r, o, w => (Kept.one_set w ⟨b, o, none⟩ v).trans (kept_setCells b r (o + 1) _) (fun _ _ e => e)
theorem row_setCells (b : Nat) {b' n : Nat} : ∀ (vs : List Value) (o : Nat) (w : World), RowAt w b' n → RowAt (w.setCells b o vs) b' n
  | [], o, w, h => h
  | v :: r, o, w, h => row_setCells b r (o + 1) _ (h.setCell _ _)

theorem rowm_setCells (b : Nat) {b' n : Nat} : ∀ (vs : List Value) (o : Nat) (w : World), RowM w b' n → RowM (w.setCells b o vs) b' n
  | [], o, w, h => h
  | v :: r, o, w, h => rowm_setCells b r (o + 1) _ (h.setCell _ _)

/-- The values of a text's bytes. -/
def byteVs (k : ByteArray) : List Value := (nums k).map (Value.int .u8)
theorem byteVs_len (k : ByteArray) : (byteVs k).length = k.size := by simp [byteVs, nums_len]
theorem byteVs_get (k : ByteArray) {j : Nat} {v : Value} (h : (byteVs k)[j]? = some v) : v = .int .u8 ((nums k).getD j 0) := by
  unfold byteVs at h
  rw [List.getElem?_map] at h
  obtain ⟨x, hx, rfl⟩ := Option.map_eq_some_iff.1 h
  rw [List.getD_eq_getElem?_getD, hx]
  rfl
theorem byteVs_at (k : ByteArray) {j : Nat} (h : j < k.size) : (byteVs k)[j]? = some (.int .u8 ((nums k).getD j 0)) := by
  have hl : j < (byteVs k).length := by rw [byteVs_len]; exact h
  have := List.getElem?_eq_getElem hl
  rw [this]
  exact congrArg some (byteVs_get k this)
theorem byteVs_one (k : ByteArray) : ∀ v ∈ byteVs k, v.oneCell' = true := by
  intro v hv
  obtain ⟨x, _, rfl⟩ := List.mem_map.1 hv
  rfl
theorem BytesAt.src {W : World} {a : Option Addr} {n : Nat} {k : ByteArray} (h : BytesAt W a n k) : Holds9 W a (byteVs k) := by
  intro j u hj
  have hl : j < n := by rw [h.1, ← byteVs_len]; exact (List.getElem?_eq_some_iff.1 hj).1
  obtain ⟨b, o, rfl, _, hc⟩ := h.2.2 j hl
  refine ⟨_, rfl, ?_⟩
  rw [add_off, hc, byteVs_get k hj]

/-- The builtin copy of as many bytes as an entry's data has, into it. -/
theorem copy_into {W : World} {x : En} (hx : EnAt W x) (hbd : x.b ≠ x.d) {a : Option Addr} {n c : Nat} {v : ByteArray} (hv : BytesAt W a n v) (hn : v.size = x.data.size) (h0 : 0 < v.size) (ty : TypeId) :
    ∃ w', (Builtin.copy_ #[28, 28] ty #[.slice (some ⟨x.d, 0, none⟩) x.data.size x.c, .slice a n c]).run Tryz.prog W = .ok (.int .i64 (n : Nat)) w' ∧ EnAt w' { x with data := v } ∧ Kept (fun b => b = x.d) W w' := by
  have hle := hx.le
  obtain ⟨ad, rfl⟩ : ∃ ad, a = some ad := by
    obtain ⟨b, o, e, _⟩ := hv.2.2 0 (by have := hv.1; omega)
    exact ⟨_, e⟩
  have hin : ∀ j, j < (byteVs v).length → (W.cell? ⟨x.d, 0 + j, none⟩).isSome = true := fun j hj => hx.drow.isSome (by rw [byteVs_len] at hj; omega)
  have hr := run_copy_cells (P := Tryz.prog) W 28 28 ty 5 x.d 0 x.data.size x.c ad n c (byteVs v) Tryz.underlying28 (by kernel_rfl) (by rw [byteVs_len, hv.1, hn]; exact (Nat.min_self _).symm)
    (fun j u hj => by obtain ⟨ad', e, h⟩ := hv.src j u hj; cases e; exact h) hin (fun j hj => hx.drow.frozen (by rw [byteVs_len] at hj; omega)) (byteVs_one v)
  refine ⟨W.setCells x.d 0 (byteVs v), ?_, ?_, kept_setCells _ _ _ _⟩
  · rw [hr, byteVs_len, hv.1]
    rfl
  · have kq := kept_setCells x.d (byteVs v) 0 W
    refine ⟨hx.row.kept kq hbd, (kq.cell (p := ⟨x.b, 0, none⟩) hx.row.lt hbd).trans hx.key, ((kq.cell (p := ⟨x.b, 1, none⟩) hx.row.lt hbd).trans hx.sl).trans (by rw [← hn]), rowm_setCells _ _ _ _ hx.drow, by show v.size ≤ x.c; omega, hx.cap, fun i hi => ?_⟩
    have hi' : i < (byteVs v).length := by rw [byteVs_len]; exact hi
    have := World.cell?_setCells_in x.d (byteVs v) 0 W hin i hi'
    rw [Nat.zero_add] at this
    rw [this]
    have h2 := byteVs_at v hi
    rw [List.getElem?_eq_getElem hi'] at h2
    exact h2

theorem byteE : Elem Tryz.prog 28 5 (.int .u8 0) 1 1 := ⟨Tryz.underlying28, by kernel_rfl, rfl, by omega⟩
set_option maxRecDepth 100000 in
/-- slices.Clone of bytes: a row of one's own. -/
theorem clone_any {W : World} {a : Option Addr} {n c : Nat} {v : ByteArray} (hv : BytesAt W a n v) (h0 : 0 < n) (hn : n ≤ 100000) :
    Calls Tryz.prog 53 #[.slice a n c] W fun e w' => ∃ d c', e = .returned (.slice (some ⟨d, 0, none⟩) n c') ∧ W.heap.size ≤ d ∧ w'.ownsRow 0 5 1 (.slice (some ⟨d, 0, none⟩) n c') n (byteVs v) ∧ Kept (fun _ => False) W w' := by
  obtain ⟨ad, rfl⟩ : ∃ ad, a = some ad := by
    obtain ⟨b, o, e, _⟩ := hv.2.2 0 h0
    exact ⟨_, e⟩
  have qT : ∀ (w : World) (a : Option Addr) (n c n' c' : Nat), (binOp .eql 28 (.slice a n c) (.slice none n' c')).run Tryz.prog w = .ok (.bool a.isNone) w := fun w a n c n' c' => Lib.run_eql_slice_nil w _ _ a n c n' c' Tryz.underlying28
  have hown0 := own_empty W 5 1
  have hs := (hv.kept (Kept.one_alloc W (.cells #[] 5)) (fun _ _ _ e => e)).src
  have hl : (byteVs v).length = n * 1 := by rw [byteVs_len, ← hv.1, Nat.mul_one]
  have HL := Lib.hid hl
  have HS := Lib.hid hs
  have HO := Lib.hid hown0
  have HB := Lib.hid (byteVs_one v)
  clear hl hs hown0
  go_enter Tryz.func53, Tryz.ntmps53
  go_wp2_with (at_builtin; refine wpList_append_mine rfl (.tmp 5) (.tmp 6) byteE (by rfl) (by rfl) HO.out (some ad) n c _ (by rfl) HL.out HS.out HB.out (by unfold maxLen; omega) (by omega) ?_; intro a3 c3 w6 own6 k6 b6; have OWN6 := Lib.hid own6; have K6 := Lib.hid k6; have B6 := Lib.hid b6; clear own6 k6 b6)
  simp only [Nat.zero_add, List.nil_append] at OWN6 B6 ⊢
  go_ret
  have hz : (W.alloc (.cells #[] 5)).heap.size = W.heap.size + 1 := by simp
  obtain ⟨a4, c4, e4, hg4, -, -⟩ := own_form OWN6.out
  obtain ⟨d, hd⟩ := hg4 h0
  injection e4 with e5 e6 e7
  subst e5; subst e7
  subst hd
  have hdW : W.heap.size ≤ d := by
    rcases B6.out with h | h
    · have h : some d = some W.heap.size := h
      have := Option.some.inj h
      omega
    · have h : some d = some (W.alloc (.cells #[] 5)).heap.size := h
      have := Option.some.inj h
      omega
  refine ⟨d, _, rfl, hdW, OWN6.out, ((Kept.one_alloc W (.cells #[] 5)).mono (S' := fun b => W.heap.size ≤ b) (fun _ _ e => e.elim)).trans (K6.out.mono (S' := fun b => W.heap.size ≤ b) (fun b _ e => ?_)) (fun _ _ e => e) |>.none⟩
  have e : some W.heap.size = some b := e
  have := Option.some.inj e
  omega
end Go.Proofs.YtdkcnigghcbnpaaGreat
