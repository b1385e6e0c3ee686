/- A map that came in. -/
import Derived.Test.YtalahbmahpgkeaaMapsWalk
import Derived.WalkKit
import Derived.ProofKit
import Derived.OpenShut
import Derived.ShutString
import Derived.ChangeOld
namespace Go.Proofs.Ytalahbmahpgkeaa
set_option linter.unusedVariables false
set_option linter.unusedSimpArgs false
open Go.ChangeShapes Go.WideShapes Go.ChangeAt Go.RowKit
theorem array5 {α : Type} {cs : Array α} (h : cs.size = 5) : ∃ c0 c1 c2 c3 c4, cs = #[c0, c1, c2, c3, c4] := by
  obtain ⟨l⟩ := cs
  match l, h with
  | [c0, c1, c2, c3, c4], _ => exact ⟨c0, c1, c2, c3, c4, rfl⟩
theorem ints5 {H : Type} {enc : TypeId × Value → H} {W : World} {base : Nat} {spare : Nat → Bool} {held : Bool} {n : Nat} {c : Value} {y : DataW H × List MemPlace} (h : DataW.trod enc Try.prog W base spare held n 3 [c] = some y) : ∃ x : Int, c = .int .i64 x := by
  obtain ⟨x, e, -⟩ := DataW.trod_int Try.underlying3 h
  exact ⟨x, by simpa using e⟩
set_option maxRecDepth 100000 in
theorem open_map {H : Type} {enc : TypeId × Value → H} {W : World} {base b0 : Nat} {spare : Nat → Bool} {held : Bool} {r : Reach} {v : Value} {d : DataW H} {p : List MemPlace}
    (hv : Value.okWide Try.prog W r b0 23 v) (h : DataW.Trod enc Try.prog W base spare held 23 v d p) : ∃ m : TM, v = m.v ∧ m.nm.size ≤ 9223372036854775807 := by
  obtain ⟨cs, rfl, hsz⟩ := okWide_struct Try.underlying23 hv
  have h5 : Try.prog.cellsOf 23 = 5 := by kernel_rfl
  rw [h5] at hsz
  obtain ⟨c0, c1, c2, c3, c4, rfl⟩ := array5 hsz
  obtain ⟨fuel, hf⟩ := h
  obtain ⟨xs, n, -, -, -, hlen, hf⟩ := DataW.trod_struct Try.underlying23 hf
  have h9 : Try.prog.cellsOf 9 = 1 := by kernel_rfl
  have h3 : Try.prog.cellsOf 3 = 1 := by kernel_rfl
  obtain ⟨x0, x1, x2, x3, x4, rfl⟩ : ∃ x0 x1 x2 x3 x4, xs = [x0, x1, x2, x3, x4] := by
    match xs, hlen with
    | [x0, x1, x2, x3, x4], _ => exact ⟨x0, x1, x2, x3, x4, rfl⟩
  have f0 := hf 0 _ rfl
  have f1 := hf 1 _ rfl
  have f2 := hf 2 _ rfl
  have f3 := hf 3 _ rfl
  have f4 := hf 4 _ rfl
  simp only [h9, h3, Value.cells, List.drop_succ_cons, List.drop_zero, List.take_succ_cons, List.take_zero, List.getElem?_cons_zero, List.getElem?_cons_succ] at f0 f1 f2 f3 f4
  obtain ⟨s, e, -, hs⟩ := DataW.trod_string Try.underlying9 f0
  obtain ⟨y1, rfl⟩ := ints5 f1
  obtain ⟨y2, rfl⟩ := ints5 f2
  obtain ⟨y3, rfl⟩ := ints5 f3
  obtain ⟨y4, rfl⟩ := ints5 f4
  obtain rfl : c0 = .string s := by simpa [h9] using e
  exact ⟨⟨s, y1, y2, y3, y4⟩, rfl, by unfold maxLen at hs; exact hs⟩
theorem tableMaps_any' (m : TM) (W : World) (hs : m.nm.size ≤ 9223372036854775807) : Calls Try.prog 3 #[m.v] W fun e w' => e = .returned (.bool true) ∧ Kept (fun _ => False) W w' := tableMaps_any m hs
end Go.Proofs.Ytalahbmahpgkeaa
