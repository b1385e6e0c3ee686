/- A loop in whose rounds functions are ranged over, with marks ahead of it; a box that counts. No program is named here. -/
import Derived.Test.YtjkgimloafpipaaGreatGenC
import Derived.Test.YtjkgimloafpipaaGreatGenA
namespace Go.Proofs.YtjkgimloafpipaaGreat
set_option linter.unusedVariables false
set_option linter.unusedSimpArgs false
open Go.RowKit

theorem wpIn_loop_marks0 {F : Fence} {n : Nat} {P : Program} {c : Code} {Q : Exit → Act → World → Prop} {w : World} {T : Array Value} (slots : List Nat) (N : Nat) (dl0 : List Nat) (Rel : List Nat → (Nat → Value) → World → Prop)
    (hl0 : dl0.length ≤ N) (h0 : Rel dl0 (fun s => T.getD s undef) w)
    (round : ∀ dl f wr, Rel dl f wr → dl.length ≤ N → c.wpIn F n P (Exit.then (MarkEnd T slots N Rel dl) Q) ⟨upd T slots f, marks dl⟩ wr) : (Code.loop c).wpIn F n P Q ⟨T, marks dl0⟩ w := by
  refine wpIn_loop (fun a' w' => ∃ dl f, Rel dl f w' ∧ a' = ⟨upd T slots f, marks dl⟩ ∧ dl.length ≤ N) (fun a' _ => N - a'.defers.length) ⟨dl0, _, h0, by rw [upd_self], hl0⟩ ?_
  rintro a' w' ⟨dl, f, hr, rfl, hN⟩
  refine Code.wpIn_mono (fun e a2 w2 q => ?_) (round dl f w' hr hN)
  cases e with
  | normal =>
    obtain ⟨dl', h1, h2, h3, h4⟩ := q
    refine ⟨⟨dl', _, h1, h2, h4⟩, ?_⟩
    rw [h2]
    simp only [marks, List.length_map]
    omega
  | ret => exact q
  | exit id => exact q
  | goto t => exact q
  | panic ch => exact q
  | outgrown => exact q

/-- A box that counts. -/
def CountO (ib : Nat) (k : Nat) (U : Nat → Prop) (W : World) : Prop := Box W ib (.int .i64 (k : Int)) ∧ U ib
theorem CountO.kept {ib k : Nat} {U : Nat → Prop} {W W' : World} (h : CountO ib k U W) (q : Kept (fun b => ¬ U b) W W') : CountO ib k U W' := ⟨h.1.kept q (fun e => e h.2), h.2⟩

end Go.Proofs.YtjkgimloafpipaaGreat
