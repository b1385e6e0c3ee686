/- The end of a function with ranges over functions: its marks, and a result that lies in a box. No program is named here. -/
import Derived.Test.YteiilokhkpaoeaaWide
import Derived.Test.YteiilokhkpaoeaaBox
import Derived.RangeFuncLeaves
import Derived.RangeFuncRecord
namespace Go.Proofs.Yteiilokhkpaoeaa
set_option linter.unusedVariables false
set_option linter.unusedSimpArgs false
open Go.RowKit

/-- Nothing was deferred in any round: the marks go. -/
theorem leaves_marks {F : Fence} {n : Nat} {P : Program} {fn : Func} {tmps : Array Value} {R : Ending → World → Prop} : ∀ (ds : List Nat) (W : World), ds.Nodup → (∀ d ∈ ds, W.heap[d]? = some (.deferred (some []))) →
    (∀ W', Kept (fun b => b ∈ ds) W W' → LeavesIn F n P fn tmps R [] .returning W') → LeavesInM F n P fn tmps R (ds.map fun d => { target := .collected d, args := #[] }) .returning W
  | [], W, _, _, h => h W (Kept.refl _ W)
  | d :: ds, W, hn, hd, h => by
    have hn' := List.nodup_cons.1 hn
    have hd0 := hd d (.head _)
    refine ⟨by simp, .inl ⟨d, _, rfl, run_takeDeferred hd0, ?_⟩⟩
    have k : Kept (fun b => b = d) W (W.putObj d (.deferred none)) := ⟨rfl, rfl, rfl, by simp, fun k _ hn => World.putObj_heap_other hn⟩
    refine leaves_marks ds _ hn'.2 (fun e he => ?_) fun W' k' => h W' ?_
    · have hde := hd e (.tail _ he)
      refine (k.block e (Array.getElem?_eq_some_iff.1 hde).1 ?_).trans hde
      rintro rfl
      exact hn'.1 he
    · refine (k.mono (S' := fun b => b ∈ d :: ds) (fun b _ e => by rw [e]; exact .head _)).trans k' (fun b _ e => .tail _ e)

theorem results_box {fn : Func} {a : Tmp} {t : TypeId} {d : TypeDesc} (h : fn.results = #[.cell a t]) {tmps : Array Value} {P : Program} {w : World} {b : Nat} {v : Value}
    (hu : P.underlying t = some d) (hd : (match d with | .struct _ | .array _ _ => true | _ => false) = false)
    (ht : tmps.getD a undef = .pointer (some ⟨b, 0, none⟩)) (hb : Box w b v) : (results fn tmps).run P w = .ok v w := by
  have hagg : (isAgg t).run P w = .ok false w := by cases d <;> simp_all [isAgg, run_underlying hu]
  rw [Array.getD_eq_getD_getElem?] at ht
  have ha : (asAddr (tmps[a]?.getD undef)).run P w = .ok ⟨b, 0, none⟩ w := by rw [ht]; simp [asAddr]
  simp [results, h, loadVar, ha, Result.andThen, hagg, hb.cell]
end Go.Proofs.Yteiilokhkpaoeaa
