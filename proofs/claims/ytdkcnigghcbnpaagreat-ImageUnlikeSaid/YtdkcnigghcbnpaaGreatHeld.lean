/- A region whose order is drawn, in a round too: loads beside calls that make memory. No program is named here. -/
import Derived.Test.YtdkcnigghcbnpaaGreatGenC
import Derived.Deep.RegionHeld3
namespace Go.Proofs.YtdkcnigghcbnpaaGreat
set_option linter.unusedVariables false
set_option linter.unusedSimpArgs false
open Go.RowKit

section
variable {ro : Option Nat} {n : Nat} {P : Program} {ops : Array Oper} {md : Region.Mode} {Q : Exit → Act → World → Prop}
theorem rowsIn_of_rows {row : String} {args : Array Value} {w : World} {R : Value → World → Prop} (h : Rows P row args w R) : RowsIn (WR ro) n P row args w R := by
  show RowsIn Fence.wide n P row args w R
  exact fun c cs _ => let ⟨v, w', r, s⟩ := h c cs; ⟨v, w', r, stepsIn_wide.2 s⟩
theorem wpIn_of_wp {o : Oper} {a : Act} {w : World} {K : Act → World → Prop} (hnd : ∀ c, o.op ≠ .defer c) (h : o.wp P a w K Q) : o.wpIn (WR ro) n P a w K Q := by
  refine ⟨fun _ _ => trivial, ?_⟩
  rw [Oper.semAt_eq _ _ _ hnd]
  unfold Oper.wp at h
  generalize (execOp a.eval o).run P w = r at *
  cases r with
  | ok x w' =>
    cases x <;> simp only [Oper.upon] at h <;> simp only [Oper.uponIn]
    case enter f args => exact ⟨fun e => by simp at e, callsIn_WR.2 h⟩
    case row row args => exact ⟨fun e => by simp at e, rowsIn_of_rows h⟩
    all_goals first | exact h | exact h.elim
  | halt x w' =>
    cases x <;> simp only [Oper.upon] at h <;> simp only [Oper.uponIn]
    all_goals first | exact h | exact h.elim
theorem wpOpIn_of_wpOp {i : Nat} {a : Act} {w : World} {K : Act → World → Prop} (hnd : ∀ o, ops[i]? = some o → ∀ c, o.op ≠ .defer c) (hLO : ¬ LetsOut Q) (h : wpOp P ops Q i K a w) : wpOpIn (WR ro) n P ops Q i K a w := by
  unfold wpOp at h
  unfold wpOpIn
  split
  · rename_i ho
    simp only [ho] at h
    exact h
  · rename_i o ho
    simp only [ho] at h
    split
    · rename_i hw
      rw [if_pos hw] at h
      rcases h with h | ⟨_, h⟩
      · exact wpIn_of_wp (hnd o ho) h
      · exact (hLO h).elim
    · rename_i hw
      rw [if_neg hw] at h
      exact ⟨fun _ _ => trivial, h⟩
theorem wpAnyIn_of_any (hnd : ∀ (i : Nat) (o : Oper), ops[i]? = some o → ∀ c, o.op ≠ .defer c) (hLO : ¬ LetsOut Q) : ∀ (fuel : Nat) (listed : Array Bool) (a : Act) (w : World), wpAny P md ops Q fuel listed a w → wpAnyIn (WR ro) n P md ops Q fuel listed a w
  | 0, _, _, _, h => h
  | fuel + 1, _, _, _, h => ⟨h.1, fun i hi => wpOpIn_of_wpOp (hnd i) hLO (wpOp_mono (fun a' w' h' => wpAnyIn_of_any hnd hLO fuel _ a' w' h') (h.2 i hi))⟩

def noDefer (l : List Oper) : Bool := l.all fun o => match o.op with | .defer _ => false | _ => true
/-- The beginning. -/
theorem wpW_region_held {id : Nat} {a : Act} {w : World} {l : List Oper} {S : World → Prop} (hm : P.follows .mixedOrders = true) (hB : noDefer l = true) (hLO : ¬ LetsOut (NoPanic Q)) (hS : S w.drew)
    (h : S w.drew → wpAnyH P .any l.toArray (NoPanic Q) S l.length (Array.replicate l.length false) a w.drew) : (Code.region id l.toArray true).wpIn (WR ro) n P Q a w := by
  refine Code.wpIn_mono (fun e a w h => NoPanic.imp e a w h) ?_
  have h1 := wpAny_of_held _ _ _ _ (h hS)
  refine wpIn_region_any hm (wpAnyIn_of_any (fun i o ho c e => ?_) hLO _ _ _ _ ?_)
  · have hm : o ∈ l := by
      rw [List.getElem?_toArray] at ho
      exact List.mem_of_getElem? ho
    have := List.all_eq_true.1 hB o hm
    rw [e] at this
    cases this
  · simpa using h1
/-- Number i first: it only reads. -/
theorem held_take {l : List Oper} {S : World → Prop} (i : Nat) {oi : Oper} {v : Value} {fuel : Nat} {listed : Array Bool} {a : Act} {w : World} (hi : l[i]? = some oi)
    (hs : Region.noSelect l.toArray = true) (hf : Region.free md l.toArray listed i = true) (hr : (Region.ready md l.toArray listed).contains i = true)
    (hQ : ∀ c a w, Q (.panic c) (a.put oi.dst v) w → Q (.panic c) a w) (hw : Region.wanted oi (yielded l.toArray a.tmps) = true) (hy : ∀ w, S w → (execOp a.eval oi).run P w = .ok (.value v) w) (hS : S w)
    (h : wpAnyH P md l.toArray Q S fuel (listed.setIfInBounds i true) (a.put oi.dst v) w) : wpAnyH P md l.toArray Q S (fuel + 1) listed a w :=
  wpAnyH_take (by rw [List.getElem?_toArray]; exact hi) hs hf hr hQ (.inl ⟨hw, hy⟩) hS h
/-- Number i is passed over. -/
theorem held_pass {l : List Oper} {S : World → Prop} (i : Nat) {oi : Oper} {fuel : Nat} {listed : Array Bool} {a : Act} {w : World} (hi : l[i]? = some oi)
    (hs : Region.noSelect l.toArray = true) (hf : Region.free md l.toArray listed i = true) (hr : (Region.ready md l.toArray listed).contains i = true)
    (hQ : ∀ c a w, Q (.panic c) (a.put oi.dst undef) w → Q (.panic c) a w) (hw : Region.wanted oi (yielded l.toArray a.tmps) = false) (hS : S w)
    (h : wpAnyH P md l.toArray Q S fuel (listed.setIfInBounds i true) (a.put oi.dst undef) w) : wpAnyH P md l.toArray Q S (fuel + 1) listed a w :=
  wpAnyH_take (v := undef) (by rw [List.getElem?_toArray]; exact hi) hs hf hr hQ (.inr ⟨hw, rfl⟩) hS h
/-- One of those that may come up. -/
theorem held_cons {l : List Oper} {S : World → Prop} {fuel : Nat} {listed : Array Bool} {a : Act} {w : World} (i : Nat) {o : Oper} {rs : List Nat} (ho : l[i]? = some o)
    (h : ∀ K' : Act → World → Prop, Shut (∀ a w, S w → (S w → wpAnyH P md l.toArray Q S fuel (listed.setIfInBounds i true) a w) → K' a w) → if Region.wanted o (yielded l.toArray a.tmps) = true then Oper.wp P o a w K' Q else K' (a.put o.dst undef) w)
    (hs : AllReadyH P md l.toArray Q S fuel listed a w rs) : AllReadyH P md l.toArray Q S fuel listed a w (i :: rs) :=
  AllReadyH.cons (by rw [List.getElem?_toArray]; exact ho) h hs
end
end Go.Proofs.YtdkcnigghcbnpaaGreat
