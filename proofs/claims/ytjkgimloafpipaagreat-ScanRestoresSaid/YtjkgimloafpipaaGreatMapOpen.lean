/- A map that came in. -/
import Derived.Test.YtjkgimloafpipaaGreatTblA
import Derived.WalkKit
import Derived.ProofKit
import Derived.OpenShut
import Derived.ShutString
import Derived.ChangeOld
namespace Go.Proofs.YtjkgimloafpipaaGreat
set_option linter.unusedVariables false
set_option linter.unusedSimpArgs false
open Go.ChangeShapes Go.WideShapes Go.ChangeAt Go.RowKit
theorem array5 {α : Type} {cs : Array α} (h : cs.size = 5) : ∃ c0 c1 c2 c3 c4, cs = #[c0, c1, c2, c3, c4] := by
  obtain ⟨l⟩ := cs
  match l, h with
  | [c0, c1, c2, c3, c4], _ => exact ⟨c0, c1, c2, c3, c4, rfl⟩
theorem ints5 {H : Type} {enc : TypeId × Value → H} {W : World} {base : Nat} {spare : Nat → Bool} {held : Bool} {n : Nat} {c : Value} {y : DataW H × List MemPlace} (h : DataW.trod enc Tryz.prog W base spare held n 3 [c] = some y) : ∃ x : Int, c = .int .i64 x := by
  obtain ⟨x, e, -⟩ := DataW.trod_int Tryz.underlying3 h
  exact ⟨x, by simpa using e⟩
set_option maxRecDepth 100000 in
theorem open_map {H : Type} {enc : TypeId × Value → H} {W : World} {base b0 : Nat} {spare : Nat → Bool} {held : Bool} {r : Reach} {v : Value} {d : DataW H} {p : List MemPlace}
    (hv : Value.okWide Tryz.prog W r b0 25 v) (h : DataW.Trod enc Tryz.prog W base spare held 25 v d p) : ∃ m : TM, v = m.v ∧ m.nm.size ≤ 9223372036854775807 := by
  obtain ⟨cs, rfl, hsz⟩ := okWide_struct Tryz.underlying25 hv
  have h5 : Tryz.prog.cellsOf 25 = 5 := by kernel_rfl
  rw [h5] at hsz
  obtain ⟨c0, c1, c2, c3, c4, rfl⟩ := array5 hsz
  obtain ⟨fuel, hf⟩ := h
  obtain ⟨xs, n, -, -, -, hlen, hf⟩ := DataW.trod_struct Tryz.underlying25 hf
  have h9 : Tryz.prog.cellsOf 9 = 1 := by kernel_rfl
  have h3 : Tryz.prog.cellsOf 3 = 1 := by kernel_rfl
  obtain ⟨x0, x1, x2, x3, x4, rfl⟩ : ∃ x0 x1 x2 x3 x4, xs = [x0, x1, x2, x3, x4] := by
    match xs, hlen with
    | [x0, x1, x2, x3, x4], _ => exact ⟨x0, x1, x2, x3, x4, rfl⟩
  have f0 := hf 0 _ rfl
  have f1 := hf 1 _ rfl
  have f2 := hf 2 _ rfl
  have f3 := hf 3 _ rfl
  have f4 := hf 4 _ rfl
  simp only [h9, h3, Value.cells, List.drop_succ_cons, List.drop_zero, List.take_succ_cons, List.take_zero, List.getElem?_cons_zero, List.getElem?_cons_succ] at f0 f1 f2 f3 f4
  obtain ⟨s, e, -, hs⟩ := DataW.trod_string Tryz.underlying9 f0
  obtain ⟨y1, rfl⟩ := ints5 f1
  obtain ⟨y2, rfl⟩ := ints5 f2
  obtain ⟨y3, rfl⟩ := ints5 f3
  obtain ⟨y4, rfl⟩ := ints5 f4
  obtain rfl : c0 = .string s := by simpa [h9] using e
  exact ⟨⟨s, y1, y2, y3, y4⟩, rfl, by unfold maxLen at hs; exact hs⟩
end Go.Proofs.YtjkgimloafpipaaGreat
