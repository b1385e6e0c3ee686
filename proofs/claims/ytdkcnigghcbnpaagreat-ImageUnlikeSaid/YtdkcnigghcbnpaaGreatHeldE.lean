/- A region whose order is drawn and that ends in one store: loads beside calls that make memory; what is loaded need not hold behind the last operation. No program is named here. -/
import Derived.Test.YtdkcnigghcbnpaaGreatHeld
import Derived.Test.YtdkcnigghcbnpaaGreatPlain
namespace Go.Proofs.YtdkcnigghcbnpaaGreat
set_option linter.unusedVariables false
set_option linter.unusedSimpArgs false
open Go.RowKit

section
variable {ro : Option Nat} {n : Nat} {P : Program} {ops : Array Oper} {md : Region.Mode} {Q : Exit → Act → World → Prop} {S : World → Prop} {L : Nat}
/-- As wpAnyH; behind number L nothing is asked. -/
def wpAnyE (P : Program) (md : Region.Mode) (ops : Array Oper) (Q : Exit → Act → World → Prop) (S : World → Prop) (L : Nat) : Nat → Array Bool → Act → World → Prop
  | 0, listed, a, w => Region.ready md ops listed = [] ∧ Q .normal a w
  | fuel + 1, listed, a, w =>
    (Region.ready md ops listed = [] → Q .normal a w) ∧
    ∀ i ∈ Region.ready md ops listed, wpOp P ops Q i (fun a' w' => (i = L ∨ S w') ∧ wpAnyE P md ops Q S L fuel (listed.setIfInBounds i true) a' w') a w
theorem wpAny_of_heldE : ∀ (fuel : Nat) (listed : Array Bool) (a : Act) (w : World), wpAnyE P md ops Q S L fuel listed a w → wpAny P md ops Q fuel listed a w
  | 0, _, _, _, h => h
  | fuel + 1, _, _, _, h => ⟨h.1, fun i hi => wpOp_mono (fun a' w' h' => wpAny_of_heldE fuel _ a' w' h'.2) (h.2 i hi)⟩
/-- Number L waits for number i. -/
def waitsB (md : Region.Mode) (ops : Array Oper) (L i : Nat) : Bool := match ops[L]? with | some o => o.after.any (fun e => Region.binds md e && e.on == i) | none => false
theorem waits_not {i : Nat} {listed : Array Bool} (hL : waitsB md ops L i = true) (hi : i ∈ Region.ready md ops listed) : ¬ L ∈ Region.ready md ops listed := by
  intro hl
  obtain ⟨_, o, ho, hall⟩ := mem_ready.1 hl
  unfold waitsB at hL
  rw [ho] at hL
  simp only [Array.any_eq_true, Bool.and_eq_true, beq_iff_eq] at hL
  obtain ⟨k, hk, h1, h2⟩ := hL
  have h3 := hall _ (Array.getElem_mem hk) h1
  rw [h2] at h3
  have h0 := (mem_ready.1 hi).1
  rcases Nat.lt_or_ge i listed.size with h' | h'
  · simp [h'] at h0 h3
    rw [h0] at h3
    cases h3
  · simp [Array.getElem?_eq_none h'] at h3
theorem wpAnyE_first {i : Nat} {oi : Oper} {v : Value} (hi : ops[i]? = some oi) (hL : waitsB md ops L i = true) (hsel : ∀ (j : Nat) (o : Oper) cs b, ops[j]? = some o → o.op ≠ .select cs b)
    (hQ : ∀ c a w, Q (.panic c) (a.put oi.dst v) w → Q (.panic c) a w) :
    ∀ (fuel : Nat) (listed : Array Bool) (a : Act) (w : World),
      (∀ j oj, ops[j]? = some oj → j ≠ i → listed.getD j true = false → (∀ e ∈ oj.after, Region.binds md e = true → e.on ≠ i) → oi.apart ops oj = true) →
      i ∈ Region.ready md ops listed → YieldsIf P ops S oi v a → S w →
      wpAnyE P md ops Q S L fuel (listed.setIfInBounds i true) (a.put oi.dst v) w → wpAnyE P md ops Q S L (fuel + 1) listed a w := by
  intro fuel
  induction fuel with
  | zero =>
    intro listed a w _ hr hy hS H
    refine ⟨fun h => (by rw [h] at hr; cases hr), fun j hj => ?_⟩
    by_cases hji : j = i
    · subst hji; exact hy.wpOp hi hS ⟨.inr hS, H⟩
    · have := ready_mono hj hji
      rw [H.1] at this
      cases this
  | succ fuel ih =>
    intro listed a w hfree hr hy hS H
    refine ⟨fun h => (by rw [h] at hr; cases hr), fun j hj => ?_⟩
    by_cases hji : j = i
    · subst hji; exact hy.wpOp hi hS ⟨.inr hS, H⟩
    · have h1 := H.2 j (ready_mono hj hji)
      obtain ⟨hjun, oj, hoj, hall⟩ := mem_ready.1 hj
      have hjL : ¬ j = L := fun e => waits_not hL hr (e ▸ hj)
      have hnot : ∀ e ∈ oj.after, Region.binds md e = true → e.on ≠ i := fun e he hb heq => by
        have h1 := hall e he hb
        have h0 := (mem_ready.1 hr).1
        rw [heq] at h1
        rcases Nat.lt_or_ge i listed.size with h' | h'
        · simp [h'] at h0 h1; rw [h0] at h1; cases h1
        · simp [Array.getElem?_eq_none h'] at h1
      have h2 := wpOp_putIf hoj (hfree j oj hoj hji hjun hnot) (fun cs b => hsel i oi cs b hi) (fun cs b => hsel j oj cs b hoj) hQ hy h1
      have hfree' : ∀ k ok, ops[k]? = some ok → k ≠ i → (listed.setIfInBounds j true).getD k true = false →
          (∀ e ∈ ok.after, Region.binds md e = true → e.on ≠ i) → oi.apart ops ok = true := fun k ok hk hki hun hno => by
        refine hfree k ok hk hki ?_ hno
        by_cases hjk : j = k
        · subst hjk; exact hjun
        · rw [getD_set_ne true hjk] at hun; exact hun
      refine wpOp_mono (fun a' w' h3 => ⟨h3.2.1, ih (listed.setIfInBounds j true) a' w' hfree' (ready_mono hr (Ne.symm hji)) h3.1 (h3.2.1.resolve_left hjL) ?_⟩) h2
      rw [Array.setIfInBounds_comm _ _ hji]
      exact h3.2.2

/-- The beginning. -/
theorem wpW_region_heldE {id : Nat} {a : Act} {w : World} {l : List Oper} (L : Nat) {S : World → Prop} (hm : P.follows .mixedOrders = true) (hB : noDefer l = true) (hLO : ¬ LetsOut (NoPanic Q)) (hS : S w.drew)
    (h : S w.drew → wpAnyE P .any l.toArray (NoPanic Q) S L l.length (Array.replicate l.length false) a w.drew) : (Code.region id l.toArray true).wpIn (WR ro) n P Q a w := by
  refine Code.wpIn_mono (fun e a w h => NoPanic.imp e a w h) ?_
  have h1 := wpAny_of_heldE _ _ _ _ (h hS)
  refine wpIn_region_any hm (wpAnyIn_of_any (fun i o ho c e => ?_) hLO _ _ _ _ ?_)
  · have hm : o ∈ l := by
      rw [List.getElem?_toArray] at ho
      exact List.mem_of_getElem? ho
    have := List.all_eq_true.1 hB o hm
    rw [e] at this
    cases this
  · simpa using h1
/-- The beginning, in a plain walk. -/
theorem wp_region_heldE {id : Nat} {a : Act} {w : World} {l : List Oper} (L : Nat) {S : World → Prop} (hm : P.follows .mixedOrders = true) (hS : S w.drew)
    (h : S w.drew → wpAnyE P .any l.toArray (NoPanic Q) S L l.length (Array.replicate l.length false) a w.drew) : (Code.region id l.toArray true).wp P Q a w := by
  refine wp_region_noPanic (wp_region_any hm (wpAny_of_heldE (S := S) (L := L) _ _ _ _ ?_))
  simpa using h hS
/-- Number i first: it only reads. -/
theorem heldE_take {l : List Oper} {S : World → Prop} (i : Nat) {oi : Oper} {v : Value} {fuel : Nat} {listed : Array Bool} {a : Act} {w : World} (hi : l[i]? = some oi) (hL : waitsB md l.toArray L i = true)
    (hs : Region.noSelect l.toArray = true) (hf : Region.free md l.toArray listed i = true) (hr : (Region.ready md l.toArray listed).contains i = true)
    (hQ : ∀ c a w, Q (.panic c) (a.put oi.dst v) w → Q (.panic c) a w) (hw : Region.wanted oi (yielded l.toArray a.tmps) = true) (hy : ∀ w, S w → (execOp a.eval oi).run P w = .ok (.value v) w) (hS : S w)
    (h : wpAnyE P md l.toArray Q S L fuel (listed.setIfInBounds i true) (a.put oi.dst v) w) : wpAnyE P md l.toArray Q S L (fuel + 1) listed a w := by
  have hi' : l.toArray[i]? = some oi := by rw [List.getElem?_toArray]; exact hi
  exact wpAnyE_first hi' hL (Region.noSelect_spec hs) hQ fuel listed a w (Region.free_spec hi' hf) (by simpa using hr) (.inl ⟨hw, hy⟩) hS h
/-- Number i is passed over. -/
theorem heldE_pass {l : List Oper} {S : World → Prop} (i : Nat) {oi : Oper} {fuel : Nat} {listed : Array Bool} {a : Act} {w : World} (hi : l[i]? = some oi) (hL : waitsB md l.toArray L i = true)
    (hs : Region.noSelect l.toArray = true) (hf : Region.free md l.toArray listed i = true) (hr : (Region.ready md l.toArray listed).contains i = true)
    (hQ : ∀ c a w, Q (.panic c) (a.put oi.dst undef) w → Q (.panic c) a w) (hw : Region.wanted oi (yielded l.toArray a.tmps) = false) (hS : S w)
    (h : wpAnyE P md l.toArray Q S L fuel (listed.setIfInBounds i true) (a.put oi.dst undef) w) : wpAnyE P md l.toArray Q S L (fuel + 1) listed a w := by
  have hi' : l.toArray[i]? = some oi := by rw [List.getElem?_toArray]; exact hi
  exact wpAnyE_first (v := undef) hi' hL (Region.noSelect_spec hs) hQ fuel listed a w (Region.free_spec hi' hf) (by simpa using hr) (.inr ⟨hw, rfl⟩) hS h
/-- Whichever comes up. -/
def AllReadyE (P : Program) (md : Region.Mode) (ops : Array Oper) (Q : Exit → Act → World → Prop) (S : World → Prop) (L : Nat) (fuel : Nat) (listed : Array Bool) (a : Act) (w : World) (rs : List Nat) : Prop :=
  ∀ i ∈ rs, wpOp P ops Q i (fun a' w' => (i = L ∨ S w') ∧ wpAnyE P md ops Q S L fuel (listed.setIfInBounds i true) a' w') a w
theorem AllReadyE.nil {fuel : Nat} {listed : Array Bool} {a : Act} {w : World} : AllReadyE P md ops Q S L fuel listed a w [] := fun _ h => by cases h
theorem heldE_cons {l : List Oper} {S : World → Prop} {fuel : Nat} {listed : Array Bool} {a : Act} {w : World} (i : Nat) {o : Oper} {rs : List Nat} (ho : l[i]? = some o)
    (h : ∀ K' : Act → World → Prop, Shut (∀ a w, S w → (S w → wpAnyE P md l.toArray Q S L fuel (listed.setIfInBounds i true) a w) → K' a w) → if Region.wanted o (yielded l.toArray a.tmps) = true then Oper.wp P o a w K' Q else K' (a.put o.dst undef) w)
    (hs : AllReadyE P md l.toArray Q S L fuel listed a w rs) : AllReadyE P md l.toArray Q S L fuel listed a w (i :: rs) := fun j hj => by
  rcases List.mem_cons.1 hj with rfl | hj
  · exact wpOp_step (by rw [List.getElem?_toArray]; exact ho) (fun K' hK => h K' (fun a w hS hW => hK a w ⟨.inr hS, hW hS⟩))
  · exact hs j hj
/-- The last one. -/
theorem heldE_last {l : List Oper} {S : World → Prop} {fuel : Nat} {listed : Array Bool} {a : Act} {w : World} {o : Oper} {rs : List Nat} (ho : l[L]? = some o)
    (h : ∀ K' : Act → World → Prop, Shut (∀ a w, wpAnyE P md l.toArray Q S L fuel (listed.setIfInBounds L true) a w → K' a w) → if Region.wanted o (yielded l.toArray a.tmps) = true then Oper.wp P o a w K' Q else K' (a.put o.dst undef) w)
    (hs : AllReadyE P md l.toArray Q S L fuel listed a w rs) : AllReadyE P md l.toArray Q S L fuel listed a w (L :: rs) := fun j hj => by
  rcases List.mem_cons.1 hj with rfl | hj
  · exact wpOp_step (by rw [List.getElem?_toArray]; exact ho) (fun K' hK => h K' (fun a w hW => hK a w ⟨.inl rfl, hW⟩))
  · exact hs j hj
theorem wpAnyE_ready {rs : List Nat} {fuel : Nat} {listed : Array Bool} {a : Act} {w : World} (hr : Region.ready md ops listed = rs) (hne : rs ≠ [])
    (h : AllReadyE P md ops Q S L fuel listed a w rs) : wpAnyE P md ops Q S L (fuel + 1) listed a w := ⟨fun h0 => absurd (hr ▸ h0) hne, hr ▸ h⟩
theorem wpAnyE_done {listed : Array Bool} {a : Act} {w : World} (hr : Region.ready md ops listed = []) (h : Q .normal a w) : ∀ fuel, wpAnyE P md ops Q S L fuel listed a w
  | 0 => ⟨hr, h⟩
  | _ + 1 => ⟨fun _ => h, by rw [hr]; simp⟩
end
end Go.Proofs.YtdkcnigghcbnpaaGreat
