/- The document's table in memory: its map, its row of entries; find, without. -/
import Derived.Test.YtalahbmahpgkeaaDocLaw
import Derived.Test.YtalahbmahpgkeaaGenC
import Derived.Test.YtalahbmahpgkeaaGenB
import Derived.Test.YtalahbmahpgkeaaGenA
import Derived.Deep.RegionLaw
import Derived.Deep.QuietTactic
import Derived.BigQuiet
namespace Go.Proofs.Ytalahbmahpgkeaa
set_option linter.unusedVariables false
set_option linter.unusedSimpArgs false
open Go.RowKit Go.MapKept

theorem rentE : Elem Try.prog 60 59 (.pointer none) 1 8 := ⟨Try.underlying60, by kernel_rfl, rfl, by omega⟩
def ptrs (E : List En) : List Value := E.map fun x => .pointer (some ⟨x.b, 0, none⟩)
theorem ptrs_len (E : List En) : (ptrs E).length = E.length := by simp [ptrs]
theorem ptrs_append (A B : List En) : ptrs (A ++ B) = ptrs A ++ ptrs B := by simp [ptrs]
theorem ptrs_one (E : List En) : ∀ u ∈ ptrs E, u.oneCell' = true := by
  intro u hu
  obtain ⟨x, -, rfl⟩ := List.mem_map.1 hu
  rfl

structure RT (W : World) (bt : Nat) (m : TM) (lv : Value) (E : List En) : Prop where
  right : m.right = true
  row : RowAt W bt 6
  c0 : W.cell? ⟨bt, 0, none⟩ = some (.string m.nm)
  c1 : W.cell? ⟨bt, 1, none⟩ = some (.int .i64 m.kd)
  c2 : W.cell? ⟨bt, 2, none⟩ = some (.int .i64 m.ks)
  c3 : W.cell? ⟨bt, 3, none⟩ = some (.int .i64 m.vs)
  c4 : W.cell? ⟨bt, 4, none⟩ = some (.int .i64 m.mx)
  c5 : W.cell? ⟨bt, 5, none⟩ = some lv
  own : W.ownsRow 0 59 1 lv E.length (ptrs E)
  ne : lv.ownBlock ≠ some bt
  en : ∀ x ∈ E, EnAt W x
  size : ∀ x ∈ E, (x.key.size : Int) = m.ks ∧ (x.data.size : Int) = m.vs
  keys : (E.map (·.key)).Nodup
  blocks : (E.flatMap fun x => [x.b, x.d]).Nodup
  apart : ∀ b, lv.ownBlock = some b → ∀ x ∈ E, b ≠ x.b ∧ b ≠ x.d
  ownb : ∀ x ∈ E, x.b ≠ bt ∧ x.d ≠ bt
  len : (E.length : Int) ≤ m.mx
  arr : m.kd = 1 → E.map (·.key) = (List.range m.mx.toNat).map numK
  rise : m.kd = 2 → Rises (fun x : En => x.key) E
/-- The blocks that it takes. -/
def Rtfp (bt : Nat) (lv : Value) (E : List En) (b : Nat) : Prop := b = bt ∨ lv.ownBlock = some b ∨ ∃ x ∈ E, x.b = b ∨ x.d = b

section
variable {W W' w w0 w1 : World} {bt : Nat} {m : TM} {lv : Value} {E : List En}
theorem RT.lt (h : RT W bt m lv E) : ∀ b, Rtfp bt lv E b → b < W.heap.size := by
  rintro b (rfl | hf | ⟨x, hx, rfl | rfl⟩)
  · exact h.row.lt
  · exact (h.own.lt b hf).2
  · exact (h.en x hx).row.lt
  · exact (h.en x hx).drow.lt
theorem RT.kept {S : Nat → Prop} (h : RT W bt m lv E) (q : Kept S W W') (hS : ∀ b, Rtfp bt lv E b → ¬ S b) : RT W' bt m lv E := by
  have hb := hS bt (.inl rfl)
  have hl := h.row.lt
  exact ⟨h.right, h.row.kept q hb, (q.cell (p := ⟨bt, 0, none⟩) hl hb).trans h.c0, (q.cell (p := ⟨bt, 1, none⟩) hl hb).trans h.c1, (q.cell (p := ⟨bt, 2, none⟩) hl hb).trans h.c2, (q.cell (p := ⟨bt, 3, none⟩) hl hb).trans h.c3,
    (q.cell (p := ⟨bt, 4, none⟩) hl hb).trans h.c4, (q.cell (p := ⟨bt, 5, none⟩) hl hb).trans h.c5, ownsRow_kept h.own q (fun b e => hS b (.inr (.inl e))), h.ne,
    fun x hx => (h.en x hx).kept q (hS _ (.inr (.inr ⟨x, hx, .inl rfl⟩))) (hS _ (.inr (.inr ⟨x, hx, .inr rfl⟩))), h.size, h.keys, h.blocks, h.apart, h.ownb, h.len, h.arr, h.rise⟩
theorem RT.keep (h : RT W bt m lv E) (q : Kept (fun _ => False) W W') : RT W' bt m lv E := h.kept q (fun _ _ e => e)
theorem RT.mx (h : RT W bt m lv E) : E.length ≤ 1024 := by
  have h3 := (rightB_iff _ _ _ _ _).1 h.right
  have := h.len
  omega
/-- What lies at a place. -/
theorem RT.at (h : RT W bt m lv E) {i : Nat} {x : En} (hx : E[i]? = some x) : ∃ g c, lv = .slice (some ⟨g, 0, none⟩) E.length c ∧ W.cell? ⟨g, i, none⟩ = some (.pointer (some ⟨x.b, 0, none⟩)) ∧ W.cell? ⟨x.b, 0, none⟩ = some (.string x.key) := by
  obtain ⟨a, c, rfl, hg, -⟩ := own_form h.own
  have hi := (List.getElem?_eq_some_iff.1 hx).1
  obtain ⟨g, rfl⟩ := hg (by omega)
  exact ⟨g, c, rfl, own_cell h.own (by unfold ptrs; rw [List.getElem?_map, hx]; rfl), (h.en x (List.mem_of_getElem? hx)).key⟩

/-- A key's place, or -1. -/
def findE (k : ByteArray) (E : List En) : Int := match E.findIdx? (fun x => decide (x.key = k)) with | some i => (i : Int) | none => -1
theorem findE_none {k : ByteArray} {E : List En} (h : lookT k E = none) : findE k E = -1 := by
  unfold findE
  have := lookT_none h
  rw [List.findIdx?_eq_none_iff.2 (by simpa using this)]
theorem findE_split {k : ByteArray} {l1 l2 : List En} {x : En} (hk : x.key = k) (h1 : ∀ y ∈ l1, y.key ≠ k) : findE k (l1 ++ x :: l2) = (l1.length : Int) := by
  unfold findE
  have : (l1 ++ x :: l2).findIdx? (fun x => decide (x.key = k)) = some l1.length := by
    rw [List.findIdx?_append, List.findIdx?_eq_none_iff.2 (by simpa using h1)]
    simp [List.findIdx?_cons, hk]
  rw [this]
set_option maxHeartbeats 400000 in
theorem rt_find_miss (h : RT w bt m lv E) {k : ByteArray} (hk : ∀ x ∈ E, x.key ≠ k) : Calls Try.prog 39 #[.pointer (some ⟨bt, 0, none⟩), .string k] w fun e w' => e = .returned (.int .i64 (-1)) ∧ w = w' := by
  have hl := h.mx
  obtain ⟨a, c, rfl, hg, -⟩ := own_form h.own
  have hs := h.c5
  go_enter Try.func39, Try.ntmps39
  go_wp2
  go_loop [5] (fun i => ∃ j : Nat, j ≤ E.length ∧ i = .int .i64 j) (fun i => E.length - (intOf i).toNat)
  case atStart => exact ⟨0, Nat.zero_le _, rfl⟩
  case round =>
    obtain ⟨j, hj, rfl⟩ := hrel
    by_cases hlt : j < E.length
    · obtain ⟨g, c', e, h1, h2⟩ := h.at (List.getElem?_eq_getElem hlt)
      injection e with e1 e2 e3
      subst e1
      subst e3
      have hne := bytes_ne (hk E[j] (List.getElem_mem hlt))
      clear hg
      go_wp2
      go_round
      case rel => exact ⟨j + 1, by omega, by go_num⟩
      case measure => simp [intOf]; omega
    · clear hg
      go_wp2
      go_ret
      exact ⟨rfl, rfl⟩
set_option maxHeartbeats 400000 in
theorem rt_find_hit {l1 l2 : List En} {x : En} (h : RT w bt m lv (l1 ++ x :: l2)) (hk : ∀ p ∈ l1, p.key ≠ x.key) : Calls Try.prog 39 #[.pointer (some ⟨bt, 0, none⟩), .string x.key] w fun e w' => e = .returned (.int .i64 l1.length) ∧ w = w' := by
  have hl := h.mx
  obtain ⟨a, c, rfl, hg, -⟩ := own_form h.own
  have hs := h.c5
  have hat : ∀ (j : Nat) (p : En), (l1 ++ x :: l2)[j]? = some p → ∃ (g : Nat) (c' : Nat), a = some ⟨g, 0, none⟩ ∧ w.cell? ⟨g, j, none⟩ = some (.pointer (some ⟨p.b, 0, none⟩)) ∧ w.cell? ⟨p.b, 0, none⟩ = some (.string p.key) := by
    intro j p hp
    obtain ⟨g, c', e, h1, h2⟩ := h.at hp
    injection e with e1 e2 e3
    exact ⟨g, c', e1, h1, h2⟩
  have HAT := Lib.hid hat
  have hN : l1.length < (l1 ++ x :: l2).length := by simp
  generalize (l1 ++ x :: l2).length = N at hl hs hg hN ⊢
  clear hat h
  go_enter Try.func39, Try.ntmps39
  go_wp2
  go_loop [5] (fun i => ∃ j : Nat, j ≤ l1.length ∧ i = .int .i64 j) (fun i => l1.length - (intOf i).toNat)
  case atStart => exact ⟨0, Nat.zero_le _, rfl⟩
  case round =>
    obtain ⟨j, hj, rfl⟩ := hrel
    have hlt : j < N := by omega
    by_cases hlt1 : j < l1.length
    · obtain ⟨g, c', rfl, h1, h2⟩ := HAT.out j l1[j] (by rw [List.getElem?_append_left hlt1]; exact List.getElem?_eq_getElem hlt1)
      have hne := bytes_ne (hk l1[j] (List.getElem_mem hlt1))
      clear hg
      go_wp2
      go_round
      case rel => exact ⟨j + 1, by omega, by go_num⟩
      case measure => simp [intOf]; omega
    · obtain rfl : j = l1.length := by omega
      obtain ⟨g, c', rfl, h1, h2⟩ := HAT.out l1.length x (by simp)
      have hne := bytes_self x.key
      clear hg
      go_wp2
      go_ret
      exact ⟨rfl, rfl⟩
theorem rt_len (h : RT w bt m lv E) : Calls Try.prog 28 #[.pointer (some ⟨bt, 0, none⟩)] w fun e w' => e = .returned (.int .i64 (E.length : Nat)) ∧ w = w' := by
  have hl := h.mx
  obtain ⟨a, c, rfl, hg, -⟩ := own_form h.own
  have hs := h.c5
  clear hg
  go_enter Try.func28, Try.ntmps28
  go_wp2
  go_ret
  exact ⟨rfl, rfl⟩
end
end Go.Proofs.Ytalahbmahpgkeaa
