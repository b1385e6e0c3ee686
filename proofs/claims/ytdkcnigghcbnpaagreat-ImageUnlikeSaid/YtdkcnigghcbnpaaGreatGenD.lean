/- What stands under the walks, part D. -/
import Derived.Test.YtdkcnigghcbnpaaGreatIter
import Derived.Test.YtdkcnigghcbnpaaGreatGenA
import Derived.Test.YtdkcnigghcbnpaaGreatGenC
import Derived.RangeFuncLeaves
import Derived.RangeFuncRecord
import Derived.Maps.RangeRun
import Derived.Maps.Range
/- The end of a round of a range over a function: what its body may have changed. No program is named here. -/
namespace Go.Proofs.YtdkcnigghcbnpaaGreat
set_option linter.unusedVariables false
set_option linter.unusedSimpArgs false
open Go.RowKit

section
variable {W W2 W3 : World} {U : Nat → Prop} {l : Nat}

/-- A round that wrote only into blocks of its own. -/
theorem round_plain (kl : Kept (fun b => b = l) W W2) (hl : ¬ U l) (hlt : ∀ b, U b → b < W.heap.size) (hlW : l < W.heap.size) (k : Kept U W2 W3) :
    W3.heap[l]? = W2.heap[l]? ∧ Grow (fun b => U b ∨ b = l) (fun b => U b ∨ b = l) W W3 ∧ ¬ U l ∧ (∀ b, U b → U b) := by
  have hs := kl.size
  have hs2 := k.size
  refine ⟨k.block l (by omega) hl, ⟨(kl.mono (S' := fun b => U b ∨ b = l) fun _ _ e => .inr e).trans k fun _ _ e => .inl e, fun _ h => h, fun _ h => .inl h, ?_⟩, hl, fun _ h => h⟩
  rintro b (h | rfl)
  · have := hlt b h; omega
  · omega

/-- A round that appended to a row of its own, and wrote the row into its box. -/
theorem round_append {ob : Nat} {o o' : Value} (kl : Kept (fun b => b = l) W W2) (hl : ¬ U l) (hlt : ∀ b, U b → b < W.heap.size) (hlW : l < W.heap.size) (hob : U ob) (hoo : ∀ b, o.ownBlock = some b → U b)
    (k : Kept (fun b => b = ob ∨ o.ownBlock = some b) W2 W3) (ho' : o'.ownBlock = o.ownBlock ∨ ∃ nb, W2.heap.size ≤ nb ∧ o'.ownBlock = some nb) (hlt' : ∀ b, o'.ownBlock = some b → b < W3.heap.size) :
    W3.heap[l]? = W2.heap[l]? ∧ Grow (fun b => U b ∨ b = l) (fun b => (U b ∨ o'.ownBlock = some b) ∨ b = l) W W3 ∧ ¬ (U l ∨ o'.ownBlock = some l) ∧ (∀ b, U b → U b ∨ o'.ownBlock = some b) := by
  have hs := kl.size
  have hs2 := k.size
  have hsub : ∀ b, (b = ob ∨ o.ownBlock = some b) → U b := by
    rintro b (rfl | h)
    · exact hob
    · exact hoo b h
  refine ⟨k.block l (by omega) (fun h => hl (hsub l h)), ⟨(kl.mono (S' := fun b => U b ∨ b = l) fun _ _ e => .inr e).trans k fun b _ e => .inl (hsub b e), fun _ h => h.imp .inl id, ?_, ?_⟩, ?_, fun _ h => .inl h⟩
  · rintro b ((h | h) | h)
    · exact .inl (.inl h)
    · rcases ho' with e | ⟨nb, hn, e⟩
      · exact .inl (.inl (hoo b (e ▸ h)))
      · rw [e] at h
        cases h
        exact .inr (by omega)
    · exact .inl (.inr h)
  · rintro b ((h | h) | rfl)
    · have := hlt b h; omega
    · exact hlt' b h
    · omega
  · rintro (h | h)
    · exact hl h
    · rcases ho' with e | ⟨nb, hn, e⟩
      · exact hl (hoo l (e ▸ h))
      · rw [e] at h
        cases h
        omega
end
end Go.Proofs.YtdkcnigghcbnpaaGreat

/- A round that collects: a row of one's own in a box, one value more. No program is named here. -/
namespace Go.Proofs.YtdkcnigghcbnpaaGreat
set_option linter.unusedVariables false
set_option linter.unusedSimpArgs false
open Go.RowKit

/-- Box sb holds a row of one's own of these values (size cells each). -/
def Coll (sb e size n : Nat) (vals : List Value) (U : Nat → Prop) (W : World) : Prop := ∃ o, Box W sb o ∧ W.ownsRow 0 e size o n vals ∧ (∀ b, o.ownBlock = some b → U b ∧ b ≠ sb) ∧ U sb
section
variable {sb e size n : Nat} {vals : List Value} {U U' : Nat → Prop} {W W' W2 W3 w' : World} {l : Nat}
theorem Coll.kept (h : Coll sb e size n vals U W) (k : Kept (fun b => ¬ U b) W W') : Coll sb e size n vals U W' := by
  obtain ⟨o, h1, h2, h3, h4⟩ := h
  exact ⟨o, h1.kept k (fun e => e h4), ownsRow_kept h2 k (fun b hb e => e (h3 b hb).1), h3, h4⟩
theorem Coll.mono (h : Coll sb e size n vals U W) (hU : ∀ b, U b → U' b) : Coll sb e size n vals U' W := by
  obtain ⟨o, h1, h2, h3, h4⟩ := h
  exact ⟨o, h1, h2, fun b hb => ⟨hU b (h3 b hb).1, (h3 b hb).2⟩, hU sb h4⟩
theorem Coll.start (hb : Box W sb (.slice none 0 0)) (hU : U sb) : Coll sb e size 0 [] U W := ⟨_, hb, ⟨by simp, .inl ⟨rfl, rfl⟩⟩, fun b h => by simp [Value.ownBlock] at h, hU⟩

/-- The append, and the store into the box. -/
theorem coll_step {o : Value} (ho : Box W2 sb o) (hrow : W2.ownsRow 0 e size o n vals) (hoo : ∀ b, o.ownBlock = some b → U b ∧ b ≠ sb) (hU : U sb) (hUlt : ∀ b, U b → b < W2.heap.size) (k3 : Kept (fun _ => False) W2 W3)
    {a' : Option Addr} {n' c' : Nat} {vals' : List Value} (h2 : w'.ownsRow 0 e size (.slice a' n' c') n' vals') (h3 : Kept (fun b => o.ownBlock = some b) W3 w') (h4 : (Value.slice a' n' c').ownBlock = o.ownBlock ∨ (Value.slice a' n' c').ownBlock = some W3.heap.size) :
    Coll sb e size n' vals' (fun b => U b ∨ (Value.slice a' n' c').ownBlock = some b) (w'.setCell ⟨sb, 0, none⟩ (.slice a' n' c')) ∧ Kept (fun b => b = sb ∨ o.ownBlock = some b) W2 (w'.setCell ⟨sb, 0, none⟩ (.slice a' n' c')) := by
  have bo4 := (ho.kept k3 (fun e => e)).kept h3 (fun e => (hoo _ e).2 rfl)
  have hsb := hUlt sb hU
  have hk3 := k3.size
  have hne : ∀ b, (Value.slice a' n' c').ownBlock = some b → b ≠ sb := by
    intro b e
    rcases h4 with h4 | h4
    · exact (hoo b (h4 ▸ e)).2
    · rw [h4] at e
      cases e
      omega
  refine ⟨⟨_, bo4.set _, ownsRow_kept h2 (Kept.one_set w' ⟨sb, 0, none⟩ _) (fun b e => hne b e), fun b e => ⟨.inr e, hne b e⟩, .inl hU⟩, ?_⟩
  exact ((k3.mono (S' := fun b => b = sb ∨ o.ownBlock = some b) (fun _ _ e => e.elim)).trans h3 (fun b _ e => .inr e)).setCell _ _ (fun _ => .inl rfl)

/-- A round that collects one more. -/
theorem coll_round {o : Value} (kl : Kept (fun b => b = l) W W2) (hl : ¬ U l) (hlt : ∀ b, U b → b < W.heap.size) (hlW : l < W.heap.size) (ho : Box W2 sb o) (hrow : W2.ownsRow 0 e size o n vals) (hoo : ∀ b, o.ownBlock = some b → U b ∧ b ≠ sb) (hU : U sb) (k3 : Kept (fun _ => False) W2 W3)
    {a' : Option Addr} {n' c' : Nat} {vals' : List Value} (h2 : w'.ownsRow 0 e size (.slice a' n' c') n' vals') (h3 : Kept (fun b => o.ownBlock = some b) W3 w') (h4 : (Value.slice a' n' c').ownBlock = o.ownBlock ∨ (Value.slice a' n' c').ownBlock = some W3.heap.size) :
    (w'.setCell ⟨sb, 0, none⟩ (.slice a' n' c')).heap[l]? = W2.heap[l]? ∧ Grow (fun b => U b ∨ b = l) (fun b => (U b ∨ (Value.slice a' n' c').ownBlock = some b) ∨ b = l) W (w'.setCell ⟨sb, 0, none⟩ (.slice a' n' c')) ∧
      ¬ (U l ∨ (Value.slice a' n' c').ownBlock = some l) ∧ (∀ b, U b → U b ∨ (Value.slice a' n' c').ownBlock = some b) ∧ Coll sb e size n' vals' (fun b => U b ∨ (Value.slice a' n' c').ownBlock = some b) (w'.setCell ⟨sb, 0, none⟩ (.slice a' n' c')) ∧
      Kept (fun b => b = sb ∨ o.ownBlock = some b) W2 (w'.setCell ⟨sb, 0, none⟩ (.slice a' n' c')) := by
  have hs := kl.size
  obtain ⟨hc, hk⟩ := coll_step ho hrow hoo hU (fun b hb => Nat.lt_of_lt_of_le (hlt b hb) hs) k3 h2 h3 h4
  obtain ⟨o5, hb5, hr5, -, -⟩ := hc
  have hend := round_append (o := o) (o' := .slice a' n' c') kl hl hlt hlW hU (fun b e => (hoo b e).1) hk (h4.imp id (fun e => ⟨_, k3.size, e⟩)) (fun b e => by
    have := (h2.lt b e).2
    simpa [World.setCell] using this)
  exact ⟨hend.1, hend.2.1, hend.2.2.1, hend.2.2.2, (coll_step ho hrow hoo hU (fun b hb => Nat.lt_of_lt_of_le (hlt b hb) hs) k3 h2 h3 h4).1, hk⟩
end
end Go.Proofs.YtdkcnigghcbnpaaGreat

/- The end of a function with ranges over functions: its marks, and a result that lies in a box. No program is named here. -/
namespace Go.Proofs.YtdkcnigghcbnpaaGreat
set_option linter.unusedVariables false
set_option linter.unusedSimpArgs false
open Go.RowKit

/-- Nothing was deferred in any round: the marks go. -/
theorem leaves_marks {F : Fence} {n : Nat} {P : Program} {fn : Func} {tmps : Array Value} {R : Ending → World → Prop} : ∀ (ds : List Nat) (W : World), ds.Nodup → (∀ d ∈ ds, W.heap[d]? = some (.deferred (some []))) →
    (∀ W', Kept (fun b => b ∈ ds) W W' → LeavesIn F n P fn tmps R [] .returning W') → LeavesInM F n P fn tmps R (ds.map fun d => { target := .collected d, args := #[] }) .returning W
  | [], W, _, _, h => h W (Kept.refl _ W)
  | d :: ds, W, hn, hd, h => by
    have hn' := List.nodup_cons.1 hn
    have hd0 := hd d (.head _)
    refine ⟨by simp, .inl ⟨d, _, rfl, run_takeDeferred hd0, ?_⟩⟩
    have k : Kept (fun b => b = d) W (W.putObj d (.deferred none)) := ⟨rfl, rfl, rfl, by simp, fun k _ hn => World.putObj_heap_other hn⟩
    refine leaves_marks ds _ hn'.2 (fun e he => ?_) fun W' k' => h W' ?_
    · have hde := hd e (.tail _ he)
      refine (k.block e (Array.getElem?_eq_some_iff.1 hde).1 ?_).trans hde
      rintro rfl
      exact hn'.1 he
    · refine (k.mono (S' := fun b => b ∈ d :: ds) (fun b _ e => by rw [e]; exact .head _)).trans k' (fun b _ e => .tail _ e)

theorem results_box {fn : Func} {a : Tmp} {t : TypeId} {d : TypeDesc} (h : fn.results = #[.cell a t]) {tmps : Array Value} {P : Program} {w : World} {b : Nat} {v : Value}
    (hu : P.underlying t = some d) (hd : (match d with | .struct _ | .array _ _ => true | _ => false) = false)
    (ht : tmps.getD a undef = .pointer (some ⟨b, 0, none⟩)) (hb : Box w b v) : (results fn tmps).run P w = .ok v w := by
  have hagg : (isAgg t).run P w = .ok false w := by cases d <;> simp_all [isAgg, run_underlying hu]
  rw [Array.getD_eq_getD_getElem?] at ht
  have ha : (asAddr (tmps[a]?.getD undef)).run P w = .ok ⟨b, 0, none⟩ w := by rw [ht]; simp [asAddr]
  simp [results, h, loadVar, ha, Result.andThen, hagg, hb.cell]
end Go.Proofs.YtdkcnigghcbnpaaGreat

/- Ranging over a function whose order nobody knows: an iterator that tells some list of a kind, and the statement's law; an iterator that hands on what another one tells. No program is named here. -/
namespace Go.Proofs.YtdkcnigghcbnpaaGreat
set_option linter.unusedVariables false
set_option linter.unusedSimpArgs false
open Go.RowKit

/-- An iterator: closure gf with captured values lb; it tells the items of some list that is Full, one behind the other; it reads the blocks D (Rd); whoever is told keeps to blocks of his own, U. Whoever is told knows that since the call only those have changed. -/
def IterG {α : Type} (P : Program) (gf : Nat) (lb : Array Value) (encs : α → Array Value) (Full : List α → Prop) (D : Nat → Prop) (Rd : World → Prop) : Prop :=
  ∀ (l : Nat) (J : List α → (Nat → Prop) → World → Prop) (Jx : (Nat → Prop) → World → Prop) (U : Nat → Prop) (W : World),
    (∀ pre U W W', J pre U W → Kept (fun b => ¬ U b) W W' → J pre U W') →
    (∀ U W W', Jx U W → Kept (fun b => ¬ U b) W W' → Jx U W') →
    (∀ pre x rest U' W', Full (pre ++ x :: rest) → J pre U' W' → Grow U U' W W' → (∀ b, U' b → ¬ D b) → Rd W' →
      YieldsTo P l (encs x) W' fun e W'' => ∃ U'', Grow U' U'' W' W'' ∧ ((e = .returned (.bool true) ∧ J (pre ++ [x]) U'' W'') ∨ (e = .returned (.bool false) ∧ Jx U'' W''))) →
    J [] U W → (∀ b, U b → ¬ D b) → (∀ b, U b → b < W.heap.size) → Rd W →
    CallsIn (WR none) 0 P gf (#[.func (.yield l) #[] #[]] ++ lb) W fun e W' => ∃ v U', e = .returned v ∧ Grow U U' W W' ∧ ((∃ items, Full items ∧ J items U' W') ∨ Jx U' W')

/-- **'for .. := range g { .. }', outside of any other such loop.** -/
theorem wpW_rangeG {α : Type} {P : Program} {g : Operand} {ps : Array Tmp} {assign body : Code} {Q : Exit → Act → World → Prop} {a : Act} {w : World} {n gf : Nat} {lb : Array Value}
    {encs : α → Array Value} {Full : List α → Prop} {D : Nat → Prop} {Rd : World → Prop} (hit : IterG P gf lb encs Full D Rd)
    (hg : a.eval g = .func (.func gf) #[] lb) (eg : ∀ args w, (callFunc gf args).run P w = .ok (.enter gf args) w) (hps : ∀ x, (encs x).size = ps.size)
    (I : List α → (Nat → Prop) → World → Prop) (Ix : Code → (Nat → Prop) → World → Prop) (U : Nat → Prop)
    (hI : ∀ pre U W W', I pre U W → Kept (fun b => ¬ U b) W W' → I pre U W') (hIx : ∀ c U W W', Ix c U W → Kept (fun b => ¬ U b) W W' → Ix c U W')
    (hD : ∀ b, U b → ¬ D b) (hDlt : ∀ b, D b → b < w.heap.size) (hlt : ∀ b, U b → b < w.heap.size) (hRd : Rd w) (hRdk : ∀ W W', Rd W → Kept (fun b => ¬ D b) W W' → Rd W') (h0 : I [] U w)
    (hround : ∀ l pre x rest U' W, Full (pre ++ x :: rest) → I pre U' W → Kept U w W → (∀ b, U' b → b < W.heap.size) → (∀ b, U' b → ¬ D b) → Rd W → ¬ U' l → ¬ D l → l < W.heap.size → w.heap.size ≤ l → (∀ b, U b → U' b) →
      assign.wpIn (WR (some l)) 0 P (Exit.then (fun a₁ W₁ => W₁.heap[l]? = W.heap[l]? ∧ ∀ W₂, Kept (fun b => b = l) W₁ W₂ → W₂.heap.size = W₁.heap.size → body.wpIn (WR (some l)) 0 P (roundEnd I Ix (pre ++ [x]) U' l W W₂) a₁ W₂) (fun _ _ _ => False))
        { tmps := (ps.zip (encs x)).foldl (fun t (p, v) => t.setIfInBounds p v) a.tmps, defers := [] } W)
    (hdone : ∀ items dk U₃ W₃, Full items → I items U₃ W₃ → Kept U w W₃ → Rd W₃ → W₃.heap[dk]? = some (.deferred (some [])) → w.heap.size ≤ dk → ¬ U₃ dk → (∀ b, U b → U₃ b) → (∀ b, U₃ b → U b ∨ w.heap.size ≤ b) → (∀ b, U₃ b → b < W₃.heap.size) →
      Q .normal { a with defers := { target := .collected dk, args := #[] } :: a.defers } W₃)
    (hstop : ∀ c dk U₃ W₃, Ix c U₃ W₃ → Kept U w W₃ → Rd W₃ → W₃.heap[dk]? = some (.deferred (some [])) → w.heap.size ≤ dk → ¬ U₃ dk → (∀ b, U b → U₃ b) → (∀ b, U₃ b → U b ∨ w.heap.size ≤ b) → (∀ b, U₃ b → b < W₃.heap.size) →
      c.wpIn (WR none) n P Q { a with defers := { target := .collected dk, args := #[] } :: a.defers } W₃) :
    (Code.rangeFunc g ps assign body).wpIn (WR none) n P Q a w := by
  refine wpIn_rangeFunc ?_
  intro fn hfn
  obtain ⟨rec, hrec⟩ : ∃ rec : LoopState → Option Code → Loop, rec = fun st pe => { state := st, pending := pe, fn, tmps := a.tmps, params := ps, assign, body, defers := w.heap.size } := ⟨_, rfl⟩
  obtain ⟨W1, hW1⟩ : ∃ W1, (w.alloc (.deferred (some []))).alloc (.loop (rec .ready none)) = W1 := ⟨_, rfl⟩
  obtain ⟨dk, hdk⟩ : ∃ dk, dk = w.heap.size := ⟨_, rfl⟩
  have hsz : W1.heap.size = dk + 2 := by rw [← hW1, hdk]; simp
  have hL1 : W1.heap[dk + 1]? = some (.loop (rec .ready none)) := by
    rw [← hW1, hdk]; have := World.alloc_heap_new (w.alloc (.deferred (some []))) (.loop (rec .ready none)); rwa [World.size_alloc] at this
  have hK1 : W1.heap[dk]? = some (.deferred (some [])) := by
    rw [← hW1, hdk]; exact (Below.heap_alloc _ _ _ (by simp)).trans (World.alloc_heap_new w _)
  have hkw : Kept (fun _ => False) w W1 := by rw [← hW1]; exact ((Kept.refl _ w).alloc _).alloc _
  refine ⟨dk + 1, [{ target := .collected dk, args := #[] }], W1, { target := .fn (.func gf) lb, args := #[.func (.yield (dk + 1)) #[] #[]] }, W1, gf,
    #[.func (.yield (dk + 1)) #[] #[]] ++ lb, W1, ?_, ?_, fun _ _ => trivial, ?_, (fun e => by cases e), ?_⟩
  · rw [← hW1, hrec, hdk]; exact run_enterLoop_outer _ _ _ _ _
  · simp only [resolve, hg]
    simp [go_sem]
  · simp [invoke, go_sem, eg]
  · rw [callsIn_WR]
    have hUl : ¬ U (dk + 1) ∧ ¬ U dk := ⟨fun h => by have := hlt _ h; omega, fun h => by have := hlt _ h; omega⟩
    refine (callsIn_WR.1 (hit (dk + 1)
      (fun pre V W => ∃ Ui, (∀ b, V b ↔ Ui b ∨ b = dk + 1 ∨ b = dk) ∧ ¬ Ui (dk + 1) ∧ ¬ Ui dk ∧ (∀ b, U b → Ui b) ∧ I pre Ui W ∧ W.heap[dk + 1]? = some (.loop (rec .ready none)) ∧ W.heap[dk]? = some (.deferred (some [])))
      (fun V W => ∃ c Ui, (∀ b, V b ↔ Ui b ∨ b = dk + 1 ∨ b = dk) ∧ ¬ Ui (dk + 1) ∧ ¬ Ui dk ∧ (∀ b, U b → Ui b) ∧ Ix c Ui W ∧ W.heap[dk + 1]? = some (.loop (rec .done (some c))) ∧ W.heap[dk]? = some (.deferred (some [])))
      (fun b => U b ∨ b = dk + 1 ∨ b = dk) W1 ?_ ?_ ?_ ?_ ?_ ?_ ?_)).mono ?_
    · rintro pre V W W' ⟨Ui, hV, h1, h2, hs, hi, hl, hk⟩ k
      have hltl := (Array.getElem?_eq_some_iff.1 hl).1
      have hltk := (Array.getElem?_eq_some_iff.1 hk).1
      refine ⟨Ui, hV, h1, h2, hs, hI _ _ _ _ hi (k.mono fun b _ hn hu => hn ((hV b).2 (.inl hu))), (k.block _ hltl (fun hn => hn ((hV _).2 (.inr (.inl rfl))))).trans hl, (k.block _ hltk (fun hn => hn ((hV _).2 (.inr (.inr rfl))))).trans hk⟩
    · rintro V W W' ⟨c, Ui, hV, h1, h2, hs, hi, hl, hk⟩ k
      have hltl := (Array.getElem?_eq_some_iff.1 hl).1
      have hltk := (Array.getElem?_eq_some_iff.1 hk).1
      refine ⟨c, Ui, hV, h1, h2, hs, hIx _ _ _ _ hi (k.mono fun b _ hn hu => hn ((hV b).2 (.inl hu))), (k.block _ hltl (fun hn => hn ((hV _).2 (.inr (.inl rfl))))).trans hl, (k.block _ hltk (fun hn => hn ((hV _).2 (.inr (.inr rfl))))).trans hk⟩
    · rintro pre x rest V W hitems ⟨Ui, hV, h1, h2, hs, hi, hl, hk⟩ hgr0 hVD hR
      have hVlt := hgr0.lt
      have hKw : Kept U w W := (hkw.mono (S' := U) fun _ _ e => e.elim).trans hgr0.kept (fun b hb e => by
        rcases e with e | e | e
        · exact e
        · omega
        · omega)
      have hltl := (Array.getElem?_eq_some_iff.1 hl).1
      have hltk := (Array.getElem?_eq_some_iff.1 hk).1
      have hy := run_yield (P := P) (args := encs x) hl (by rw [hrec]; exact hps x)
      rw [hrec] at hy
      refine ⟨fn, _, assign, body, hy, roundIn_of_wpIn trivial ?_⟩
      refine wpIn_mono (hround (dk + 1) pre x rest Ui W hitems hi hKw (fun b hb => hVlt b ((hV b).2 (.inl hb))) (fun b hb => hVD b ((hV b).2 (.inl hb))) hR h1 (fun hd => by have := hDlt _ hd; omega) hltl (by omega) hs) ?_
      rintro e a₁ W₁ hq
      cases e with
      | normal =>
        obtain ⟨hl₁, hnext⟩ := hq
        have hl₁' := hl₁.trans hl
        have hlt₁ := (Array.getElem?_eq_some_iff.1 hl₁').1
        refine ⟨_, run_beginRound hl₁' (by rw [hrec]), ?_⟩
        refine wpIn_mono (hnext _ (kept_putObj W₁ (dk + 1) _) (by simp)) ?_
        have hl₂ : (W₁.putObj (dk + 1) (.loop { rec .ready none with state := .busy })).heap[dk + 1]? = some (.loop { rec .ready none with state := .busy }) := World.putObj_heap_same hlt₁
        have fin : ∀ (jump : Option Code) (W3 : World), W3.heap[dk + 1]? = (W₁.putObj (dk + 1) (.loop { rec .ready none with state := .busy })).heap[dk + 1]? →
            (Instr.endRound (dk + 1) jump).run P W3 = .ok (.bool jump.isNone) (W3.putObj (dk + 1) (.loop (rec (if jump.isNone then .ready else .done) jump))) ∧
            (W3.putObj (dk + 1) (.loop (rec (if jump.isNone then .ready else .done) jump))).heap[dk + 1]? = some (.loop (rec (if jump.isNone then .ready else .done) jump)) := fun jump W3 hk3 => by
          have hl3 := hk3.trans hl₂
          have := run_endRound (P := P) jump hl3
          rw [hrec] at this ⊢
          exact ⟨this, World.putObj_heap_same (Array.getElem?_eq_some_iff.1 hl3).1⟩
        have rest : ∀ (U₃ : Nat → Prop) (W3 : World) (o : Obj), Grow (fun b => Ui b ∨ b = dk + 1) (fun b => U₃ b ∨ b = dk + 1) W W3 → ¬ U₃ (dk + 1) →
            Grow V (fun b => U₃ b ∨ b = dk + 1 ∨ b = dk) W (W3.putObj (dk + 1) o) ∧ ¬ U₃ dk ∧ Kept (fun b => ¬ U₃ b) W3 (W3.putObj (dk + 1) o) ∧ (W3.putObj (dk + 1) o).heap[dk]? = some (.deferred (some [])) := by
          intro U₃ W3 o gr hn
          have hndk : ¬ U₃ dk := fun hu => by
            rcases gr.new dk (.inl hu) with (h | h) | h
            · exact h2 h
            · omega
            · omega
          have hkk : Kept V W W3 := gr.kept.mono fun b _ hb => (hV b).2 (hb.elim .inl (fun e => .inr (.inl e)))
          refine ⟨⟨hkk.trans (kept_putObj W3 (dk + 1) o) (fun b _ e => (hV b).2 (.inr (.inl e))), fun b hb => ?_, fun b hb => ?_, fun b hb => ?_⟩, hndk, ?_, ?_⟩
          · rcases (hV b).1 hb with h | h | h
            · exact (gr.sub b (.inl h)).elim .inl (fun e => .inr (.inl e))
            · exact .inr (.inl h)
            · exact .inr (.inr h)
          · rcases hb with h | h | h
            · exact (gr.new b (.inl h)).imp (fun e => (hV b).2 (e.elim .inl (fun e => .inr (.inl e)))) id
            · exact .inl ((hV b).2 (.inr (.inl h)))
            · exact .inl ((hV b).2 (.inr (.inr h)))
          · rw [World.putObj_size]
            rcases hb with h | h | h
            · exact gr.lt b (.inl h)
            · exact gr.lt b (.inr h)
            · subst h; exact Nat.lt_of_lt_of_le hltk gr.kept.size
          · exact (kept_putObj W3 (dk + 1) o).mono fun b _ e => by subst e; exact hn
          · refine (World.putObj_heap_other (by omega)).trans ((gr.kept.block dk hltk ?_).trans hk)
            rintro (h | h)
            · exact h2 h
            · omega
        rintro e a3 W3 hp
        cases e with
        | normal =>
          obtain ⟨hk3, U₃, gr, hn, hsub, hi3⟩ := hp
          obtain ⟨hr, hl4⟩ := fin none W3 hk3
          obtain ⟨g1, g2, g3, g4⟩ := rest U₃ W3 (.loop (rec .ready none)) gr hn
          exact ⟨_, _, hr, _, g1, .inl ⟨rfl, U₃, fun _ => Iff.rfl, hn, g2, fun b hb => hsub b (hs b hb), hI _ _ _ _ hi3 g3, hl4, g4⟩⟩
        | ret =>
          obtain ⟨hk3, U₃, gr, hn, hsub, hi3⟩ := hp
          obtain ⟨hr, hl4⟩ := fin (some .ret) W3 hk3
          obtain ⟨g1, g2, g3, g4⟩ := rest U₃ W3 (.loop (rec .done (some .ret))) gr hn
          exact ⟨_, _, hr, _, g1, .inr ⟨rfl, .ret, U₃, fun _ => Iff.rfl, hn, g2, fun b hb => hsub b (hs b hb), hIx _ _ _ _ hi3 g3, hl4, g4⟩⟩
        | exit id =>
          obtain ⟨hk3, U₃, gr, hn, hsub, hi3⟩ := hp
          obtain ⟨hr, hl4⟩ := fin (some (.exit id)) W3 hk3
          obtain ⟨g1, g2, g3, g4⟩ := rest U₃ W3 (.loop (rec .done (some (.exit id)))) gr hn
          exact ⟨_, _, hr, _, g1, .inr ⟨rfl, .exit id, U₃, fun _ => Iff.rfl, hn, g2, fun b hb => hsub b (hs b hb), hIx _ _ _ _ hi3 g3, hl4, g4⟩⟩
        | goto t =>
          obtain ⟨hk3, U₃, gr, hn, hsub, hi3⟩ := hp
          obtain ⟨hr, hl4⟩ := fin (some (.goto t)) W3 hk3
          obtain ⟨g1, g2, g3, g4⟩ := rest U₃ W3 (.loop (rec .done (some (.goto t)))) gr hn
          exact ⟨_, _, hr, _, g1, .inr ⟨rfl, .goto t, U₃, fun _ => Iff.rfl, hn, g2, fun b hb => hsub b (hs b hb), hIx _ _ _ _ hi3 g3, hl4, g4⟩⟩
        | panic ch => exact hp.elim
        | outgrown => exact hp.elim
      | ret => exact hq.elim
      | exit id => exact hq.elim
      | goto t => exact hq.elim
      | panic ch => exact hq.elim
      | outgrown => exact hq.elim
    · exact ⟨U, fun _ => Iff.rfl, hUl.1, hUl.2, fun _ h => h, hI _ _ _ _ h0 (hkw.mono fun _ _ e => e.elim), hL1, hK1⟩
    · rintro b (h | h | h) hd
      · exact hD b h hd
      · have := hDlt _ hd; omega
      · have := hDlt _ hd; omega
    · rintro b (h | h | h)
      · exact Nat.lt_of_lt_of_le (hlt b h) hkw.size
      · omega
      · omega
    · exact hRdk _ _ hRd (hkw.mono fun _ _ e => e.elim)
    · rintro e W2 ⟨v, V, rfl, gr, hend⟩
      have hkall : ∀ o, Kept U w (W2.putObj (dk + 1) o) := fun o => by
        refine ((hkw.mono (S' := U) fun _ _ e => e.elim).trans gr.kept ?_).trans (kept_putObj W2 (dk + 1) o) ?_
        · rintro b hb (h | h | h)
          · exact h
          · omega
          · omega
        · intro b hb e; omega
      have hnew : ∀ b, V b → (U b ∨ b = dk + 1 ∨ b = dk) ∨ w.heap.size ≤ b := fun b hb => (gr.new b hb).imp id (fun e => Nat.le_trans hkw.size e)
      have hRd2 : ∀ o, Rd (W2.putObj (dk + 1) o) := fun o => hRdk _ _ hRd ((hkall o).mono fun b _ hu hd => hD b hu hd)
      rcases hend with ⟨items, hfull, Ui, hV, h1, h2, hs, hi, hl, hk⟩ | ⟨c, Ui, hV, h1, h2, hs, hi, hl, hk⟩
      · refine ⟨none, _, by have := run_endLoop (P := P) hl (by rw [hrec]; simp); rw [hrec] at this; exact this, ?_⟩
        refine hdone items dk Ui _ hfull (hI _ _ _ _ hi ((kept_putObj W2 (dk + 1) _).mono fun b _ e => by subst e; exact h1)) (hkall _) (hRd2 _) ((World.putObj_heap_other (by omega)).trans hk) (by omega) h2 hs (fun b hb => ?_) (fun b hb => ?_)
        · rcases hnew b ((hV b).2 (.inl hb)) with (h | h | h) | h
          · exact .inl h
          · exact .inr (by omega)
          · exact .inr (by omega)
          · exact .inr h
        · rw [World.putObj_size]; exact gr.lt b ((hV b).2 (.inl hb))
      · refine ⟨some c, _, by have := run_endLoop (P := P) hl (by rw [hrec]; simp); rw [hrec] at this; exact this, ?_⟩
        refine hstop c dk Ui _ (hIx _ _ _ _ hi ((kept_putObj W2 (dk + 1) _).mono fun b _ e => by subst e; exact h1)) (hkall _) (hRd2 _) ((World.putObj_heap_other (by omega)).trans hk) (by omega) h2 hs (fun b hb => ?_) (fun b hb => ?_)
        · rcases hnew b ((hV b).2 (.inl hb)) with (h | h | h) | h
          · exact .inl h
          · exact .inr (by omega)
          · exact .inr (by omega)
          · exact .inr h
        · rw [World.putObj_size]; exact gr.lt b ((hV b).2 (.inl hb))


/-- An iterator whose items are told in other words. -/
theorem IterG.map {α β : Type} {P : Program} {gf : Nat} {lb : Array Value} {encs : α → Array Value} {encs' : β → Array Value} {items : List α} {D : Nat → Prop} {Rd : World → Prop} (f : α → β) (he : ∀ x, encs x = encs' (f x)) (h : IterG P gf lb encs (fun l => l = items) D Rd) :
    IterG P gf lb encs' (fun l => l = items.map f) D Rd := by
  intro l J Jx U W hJ hJx hY h0 hD hlt hR
  refine (h l (fun pre U W => J (pre.map f) U W) Jx U W (fun pre => hJ (pre.map f)) hJx (fun pre x rest U' W' e hj gr hd hr => ?_) h0 hD hlt hR).mono ?_
  · rw [he]
    have := hY (pre.map f) (f x) (rest.map f) U' W' (by rw [← e]; simp) hj gr hd hr
    simpa using this
  · rintro e W' ⟨v, U', rfl, g, hj⟩
    refine ⟨v, U', rfl, g, hj.imp ?_ id⟩
    rintro ⟨l2, e2, hj2⟩
    exact ⟨_, rfl, by rw [← e2]; exact hj2⟩

/-- What a round of an iterator's own range owes, told in the outer rounds' words. -/
def PassEnd {β : Type} (J : List β → (Nat → Prop) → World → Prop) (Jx : (Nat → Prop) → World → Prop) (nxt : List β) (U : Nat → Prop) (W : World) : Exit → Act → World → Prop
  | .normal, _, W₃ => ∃ U'', Grow U U'' W W₃ ∧ J nxt U'' W₃
  | .ret, _, W₃ => ∃ U'', Grow U U'' W W₃ ∧ Jx U'' W₃
  | _, _, _ => False

/-- **An iterator that ranges over another one, and hands on what it wants of it, as the last thing that it does.** -/
theorem wpW_pass {α β : Type} {P : Program} {g : Operand} {ps : Array Tmp} {assign body : Code} {fn : Func} {T : Array Value} {Q : Exit → Act → World → Prop} {w : World} {gf : Nat} {lb : Array Value}
    {encs : α → Array Value} {Full : List α → Prop} {D : Nat → Prop} {Rd : World → Prop} (hit : IterG P gf lb encs Full D Rd)
    (hg : Act.eval ⟨T, []⟩ g = .func (.func gf) #[] lb) (eg : ∀ args w, (callFunc gf args).run P w = .ok (.enter gf args) w) (hps : ∀ x, (encs x).size = ps.size) (hres : fn.results = #[])
    (f : α → Option β) {oencs : β → Array Value} {OFull : List β → Prop} {OD : Nat → Prop} {ORd : World → Prop} {l : Nat} {J : List β → (Nat → Prop) → World → Prop} {Jx : (Nat → Prop) → World → Prop} {U : Nat → Prop} {W0 : World}
    (hJ : ∀ pre U W W', J pre U W → Kept (fun b => ¬ U b) W W' → J pre U W') (hJx : ∀ U W W', Jx U W → Kept (fun b => ¬ U b) W W' → Jx U W')
    (hY : ∀ pre x rest U' W', OFull (pre ++ x :: rest) → J pre U' W' → Grow U U' W0 W' → (∀ b, U' b → ¬ OD b) → ORd W' →
      YieldsTo P l (oencs x) W' fun e W'' => ∃ U'', Grow U' U'' W' W'' ∧ ((e = .returned (.bool true) ∧ J (pre ++ [x]) U'' W'') ∨ (e = .returned (.bool false) ∧ Jx U'' W'')))
    (hFO : ∀ xs, Full xs → OFull (xs.filterMap f)) (h0 : J [] U w) (hU : Kept U W0 w) (hUlt : ∀ b, U b → b < W0.heap.size) (hUD : ∀ b, U b → ¬ OD b) (hODlt : ∀ b, OD b → b < W0.heap.size)
    (hORd : ORd W0) (hORdk : ∀ W W', ORd W → Kept (fun b => ¬ OD b) W W' → ORd W')
    (X : Nat → Prop) (hX : ∀ b, X b → W0.heap.size ≤ b ∧ b < w.heap.size) (XR : World → Prop) (hXR : XR w) (hXRk : ∀ W W', XR W → Kept (fun b => ¬ X b) W W' → XR W')
    (hD : ∀ b, D b → b < w.heap.size ∧ ¬ U b ∧ ¬ X b) (hRd : Rd w) (hRdk : ∀ W W', Rd W → Kept (fun b => ¬ D b) W W' → Rd W')
    (hQn : ∀ a w, bodyPostM (WR none) 0 P fn (fun e W' => ∃ v U', e = .returned v ∧ Grow U U' W0 W' ∧ ((∃ items, OFull items ∧ J items U' W') ∨ Jx U' W')) .normal a w → Q .normal a w)
    (hQr : ∀ a w, bodyPostM (WR none) 0 P fn (fun e W' => ∃ v U', e = .returned v ∧ Grow U U' W0 W' ∧ ((∃ items, OFull items ∧ J items U' W') ∨ Jx U' W')) .ret a w → Q .ret a w)
    (hbody : ∀ l' pre x rest U' W, Full (pre ++ x :: rest) → l' < W.heap.size → (∀ b, U' b → b < W.heap.size) → ¬ U' l' →
      assign.wpIn (WR (some l')) 0 P (Exit.then (fun a₁ W₁ => W₁ = W ∧ ∀ W₂, XR W₂ → Rd W₂ → ORd W₂ → W.heap.size = W₂.heap.size → J (pre.filterMap f) U' W₂ →
          (∀ y, f x = some y → ∀ W₃, Kept (fun _ => False) W₂ W₃ → W₃.heap.size = W₂.heap.size → YieldsTo P l (oencs y) W₃ fun e W'' => ∃ U'', Grow U' U'' W₃ W'' ∧ ((e = .returned (.bool true) ∧ J (pre.filterMap f ++ [y]) U'' W'') ∨ (e = .returned (.bool false) ∧ Jx U'' W''))) →
          body.wpIn (WR (some l')) 0 P (PassEnd J Jx ((pre ++ [x]).filterMap f) U' W₂) a₁ W₂) (fun _ _ _ => False))
        { tmps := (ps.zip (encs x)).foldl (fun t (p, v) => t.setIfInBounds p v) T, defers := [] } W) :
    (Code.rangeFunc g ps assign body).wpIn (WR none) 0 P Q ⟨T, []⟩ w := by
  have hUlt' : ∀ b, U b → b < w.heap.size := fun b h => Nat.lt_of_lt_of_le (hUlt b h) hU.size
  have hsz0 := hU.size
  have leave : ∀ (tm : Array Value) (dk : Nat) (U₃ : Nat → Prop) (W₃ : World), W₃.heap[dk]? = some (.deferred (some [])) → w.heap.size ≤ dk → ¬ U₃ dk → Grow U U₃ W0 W₃ → ((∃ items, OFull items ∧ J items U₃ W₃) ∨ Jx U₃ W₃) →
      LeavesInM (WR none) 0 P fn tm (fun e W' => ∃ v U', e = .returned v ∧ Grow U U' W0 W' ∧ ((∃ items, OFull items ∧ J items U' W') ∨ Jx U' W')) [{ target := .collected dk, args := #[] }] .returning W₃ := by
    intro tm dk U₃ W₃ hk hdk hn gr hj
    refine leaves_marks [dk] _ (by simp) (fun d hd => by rw [List.mem_singleton.1 hd]; exact hk) (fun W' kd => ?_)
    have kd' : Kept (fun b => ¬ U₃ b) W₃ W' := kd.mono fun b _ e => by rw [List.mem_singleton.1 e]; exact hn
    refine ⟨_, results_none hres _ _ _, _, U₃, rfl, gr.after kd (fun b e hb => by have := List.mem_singleton.1 e; omega), ?_⟩
    rcases hj with ⟨items, h1, h2⟩ | h
    · exact .inl ⟨items, h1, hJ _ _ _ _ h2 kd'⟩
    · exact .inr (hJx _ _ _ h kd')
  have grow : ∀ (Uo : Nat → Prop) (W : World), (∀ b, U b → Uo b) → (∀ b, Uo b → U b ∨ W0.heap.size ≤ b) → Kept (fun b => U b ∨ X b) w W → (∀ b, Uo b → b < W.heap.size) → Grow U Uo W0 W := by
    intro Uo W h1 h2 k h3
    refine ⟨hU.trans k (fun b hb e => ?_), h1, h2, h3⟩
    rcases e with e | e
    · exact e
    · have := (hX b e).1
      omega
  refine wpW_rangeG hit hg eg hps
    (fun pre V W => ∃ Uo, (∀ b, V b ↔ Uo b ∨ X b) ∧ (∀ b, X b → ¬ Uo b) ∧ J (pre.filterMap f) Uo W ∧ XR W ∧ (∀ b, U b → Uo b) ∧ (∀ b, Uo b → U b ∨ W0.heap.size ≤ b))
    (fun c V W => c = .ret ∧ ∃ Uo, (∀ b, V b ↔ Uo b ∨ X b) ∧ Jx Uo W ∧ (∀ b, U b → Uo b) ∧ (∀ b, Uo b → U b ∨ W0.heap.size ≤ b))
    (fun b => U b ∨ X b) ?_ ?_ ?_ (fun b hb => (hD b hb).1) ?_ hRd hRdk ?_ ?_ ?_ ?_
  · rintro pre V W W' ⟨Uo, hV, hx, hj, hxr, h1, h2⟩ k
    exact ⟨Uo, hV, hx, hJ _ _ _ _ hj (k.mono fun b _ hn hu => hn ((hV b).2 (.inl hu))), hXRk _ _ hxr (k.mono fun b _ hn hu => hn ((hV b).2 (.inr hu))), h1, h2⟩
  · rintro c V W W' ⟨hc, Uo, hV, hj, h1, h2⟩ k
    exact ⟨hc, Uo, hV, hJx _ _ _ hj (k.mono fun b _ hn hu => hn ((hV b).2 (.inl hu))), h1, h2⟩
  · rintro b (h | h) hd
    · exact (hD b hd).2.1 h
    · exact (hD b hd).2.2 h
  · rintro b (h | h)
    · exact hUlt' b h
    · exact (hX b h).2
  · exact ⟨U, fun _ => Iff.rfl, fun b hx hu => by have := (hX b hx).1; have := hUlt b hu; omega, h0, hXR, fun _ h => h, fun _ h => .inl h⟩
  · rintro l' pre x rest V W hitems ⟨Uo, hV, hx, hj, hxr, h1, h2⟩ hkw hlt hVD hRdW hl hlD hlW hlw hUV
    have hUo : ∀ b, Uo b → b < W.heap.size := fun b hb => hlt b ((hV b).2 (.inl hb))
    have hlU : ¬ Uo l' := fun h => hl ((hV l').2 (.inl h))
    have hlX : ¬ X l' := fun h => hl ((hV l').2 (.inr h))
    refine wpIn_mono (hbody l' pre x rest Uo W hitems hlW hUo hlU) ?_
    rintro e a₁ W₁ hq
    cases e with
    | normal =>
      obtain ⟨rfl, hnext⟩ := hq
      refine ⟨rfl, fun W₂ kl zl => ?_⟩
      have gr := grow Uo W₁ h1 h2 hkw hUo
      have gr2 : Grow U Uo W0 W₂ := gr.after kl (fun b e hb => by omega)
      have kl' : Kept (fun b => ¬ Uo b) W₁ W₂ := kl.mono fun b _ e => by rw [e]; exact hlU
      refine wpIn_mono (hnext W₂ (hXRk _ _ hxr (kl.mono fun b _ e => by rw [e]; exact hlX)) (hRdk _ _ hRdW (kl.mono fun b _ e => by rw [e]; exact hlD)) (hORdk _ _ hORd (gr2.kept.mono fun b _ hu hd => hUD b hu hd)) zl.symm (hJ _ _ _ _ hj kl') ?_) ?_
      · intro y hy W₃ k₃ z₃
        have gr3 : Grow U Uo W0 W₃ := gr2.after k₃ (fun b e _ => e.elim)
        refine hY (pre.filterMap f) y (rest.filterMap f) Uo W₃ ?_ (hJ _ _ _ _ hj (kl'.trans k₃ (fun _ _ e => e.elim))) gr3 ?_ (hORdk _ _ hORd (gr3.kept.mono fun b _ hu hd => hUD b hu hd))
        · have := hFO _ hitems
          rw [List.filterMap_append, List.filterMap_cons_some hy] at this
          exact this
        · intro b hb hd
          rcases h2 b hb with h | h
          · exact hUD b h hd
          · have := hODlt b hd
            omega
      · have fin : ∀ (Un : Nat → Prop) (W₃ : World), Grow Uo Un W₂ W₃ → W₃.heap[l']? = W₂.heap[l']? ∧ Grow (fun b => V b ∨ b = l') (fun b => (Un b ∨ X b) ∨ b = l') W₁ W₃ ∧ ¬ (Un l' ∨ X l') ∧ (∀ b, V b → Un b ∨ X b) ∧ XR W₃ ∧ (∀ b, U b → Un b) ∧ (∀ b, Un b → U b ∨ W0.heap.size ≤ b) ∧ (∀ b, X b → ¬ Un b) := by
          intro Un W₃ g
          have hlt2 : l' < W₂.heap.size := by omega
          have hnl : ¬ Un l' := fun h => by
            rcases g.new l' h with h | h
            · exact hlU h
            · omega
          refine ⟨g.kept.block l' hlt2 hlU, ⟨(kl.mono (S' := fun b => V b ∨ b = l') fun b _ e => .inr e).trans g.kept (fun b _ e => .inl ((hV b).2 (.inl e))), ?_, ?_, ?_⟩, ?_, ?_, ?_, fun b hb => g.sub b (h1 b hb), ?_, ?_⟩
          · rintro b (h | h)
            · exact .inl (((hV b).1 h).imp (g.sub b) id)
            · exact .inr h
          · rintro b ((h | h) | h)
            · rcases g.new b h with h | h
              · exact .inl (.inl ((hV b).2 (.inl h)))
              · exact .inr (by omega)
            · exact .inl (.inl ((hV b).2 (.inr h)))
            · exact .inl (.inr h)
          · rintro b ((h | h) | h)
            · exact g.lt b h
            · have := (hX b h).2
              have := hkw.size
              have := kl.size
              have := g.kept.size
              omega
            · have := g.kept.size
              omega
          · rintro (h | h)
            · exact hnl h
            · exact hlX h
          · intro b hb
            exact ((hV b).1 hb).imp (g.sub b) id
          · exact hXRk _ _ (hXRk _ _ hxr (kl.mono fun b _ e => by rw [e]; exact hlX)) (g.kept.mono fun b _ e hx' => hx b hx' e)
          · intro b hb
            rcases g.new b hb with h | h
            · exact h2 b h
            · exact .inr (by have := gr2.kept.size; omega)
          · intro b hb h
            rcases g.new b h with h | h
            · exact hx b hb h
            · have := (hX b hb).2
              have := hkw.size
              have := kl.size
              omega
        rintro e a₃ W₃ hp
        cases e with
        | normal =>
          obtain ⟨Un, g, hj3⟩ := hp
          obtain ⟨e1, e2, e3, e4, e5, e6, e7, e8⟩ := fin Un W₃ g
          exact ⟨e1, _, e2, e3, e4, Un, fun _ => Iff.rfl, e8, hj3, e5, e6, e7⟩
        | ret =>
          obtain ⟨Un, g, hj3⟩ := hp
          obtain ⟨e1, e2, e3, e4, e5, e6, e7, e8⟩ := fin Un W₃ g
          exact ⟨e1, _, e2, e3, e4, rfl, Un, fun _ => Iff.rfl, hj3, e6, e7⟩
        | exit id => exact hp.elim
        | goto t => exact hp.elim
        | panic ch => exact hp.elim
        | outgrown => exact hp.elim
    | ret => exact hq.elim
    | exit id => exact hq.elim
    | goto t => exact hq.elim
    | panic ch => exact hq.elim
    | outgrown => exact hq.elim
  · rintro items dk V W₃ hfull ⟨Uo, hV, hx, hj, hxr, h1, h2⟩ hkw hRdW hk hdk hdkn hUV hVn hVlt
    exact hQn _ _ (leave _ dk Uo W₃ hk hdk (fun h => hdkn ((hV dk).2 (.inl h))) (grow Uo W₃ h1 h2 hkw (fun b hb => hVlt b ((hV b).2 (.inl hb)))) (.inl ⟨_, hFO _ hfull, hj⟩))
  · rintro c dk V W₃ ⟨rfl, Uo, hV, hj, h1, h2⟩ hkw hRdW hk hdk hdkn hUV hVn hVlt
    refine wpIn_ret (hQr _ _ ?_)
    exact leave _ dk Uo W₃ hk hdk (fun h => hdkn ((hV dk).2 (.inl h))) (grow Uo W₃ h1 h2 hkw (fun b hb => hVlt b ((hV b).2 (.inl hb)))) (.inr hj)
end Go.Proofs.YtdkcnigghcbnpaaGreat

/- A range over a map: which entries are still to come, told as a list beside the map's own row. Plain; no program is named here. -/
namespace Go.Proofs.YtdkcnigghcbnpaaGreat
set_option linter.unusedVariables false
set_option linter.unusedSimpArgs false
open Go.RowKit Go.MapKept

theorem perm_lift {α β γ : Type} (h : α → γ) (f : β → γ) : ∀ (l1 : List α) (l2 : List β), (l1.map h).Perm (l2.map f) → ∃ ys : List β, ys.Perm l2 ∧ l1.map h = ys.map f
  | [], l2, hp => by
    have := hp.length_eq
    simp at this
    have : l2 = [] := List.eq_nil_of_length_eq_zero this.symm
    subst this
    exact ⟨[], .refl _, rfl⟩
  | a :: l1, l2, hp => by
    have hm : h a ∈ l2.map f := hp.subset (by simp)
    obtain ⟨x, hx, e⟩ := List.mem_map.1 hm
    obtain ⟨p, q, rfl⟩ := List.append_of_mem hx
    have hp' : (l1.map h).Perm ((p ++ q).map f) := by
      simp only [List.map_append, List.map_cons] at hp ⊢
      rw [e] at hp
      exact (hp.trans List.perm_middle).cons_inv
    obtain ⟨ys, h1, h2⟩ := perm_lift h f l1 (p ++ q) hp'
    exact ⟨x :: ys, ((h1.cons x).trans List.perm_middle.symm), by simp [h2, e]⟩

section
variable {β : Type}
def leftP (Z : List (MapEntry × β)) (seen : Array Nat) : List (MapEntry × β) := Z.filter fun p => !seen.contains p.1.born
theorem leftP_fst {es : Array MapEntry} {ys : List β} (hl : es.toList.length = ys.length) (seen : Array Nat) : (leftOf es seen).toList = (leftP (es.toList.zip ys) seen).map (·.1) := by
  unfold leftOf leftP
  rw [Array.toList_filter]
  conv => lhs; rw [show es.toList = (es.toList.zip ys).map (·.1) from (List.map_fst_zip (by omega)).symm]
  rw [List.filter_map]
  rfl
theorem leftP_step {Z : List (MapEntry × β)} (hn : (Z.map (·.1.born)).Nodup) {seen : Array Nat} {e : MapEntry} (he : e ∈ (leftP Z seen).map (·.1)) :
    ∃ A y B, leftP Z seen = A ++ (e, y) :: B ∧ leftP Z (seen.push e.born) = A ++ B ∧ (e, y) ∈ Z := by
  obtain ⟨⟨e', y⟩, hm, rfl⟩ := List.mem_map.1 he
  obtain ⟨A, B, hAB⟩ := List.append_of_mem hm
  refine ⟨A, y, B, hAB, ?_, (List.mem_filter.1 hm).1⟩
  have h1 : leftP Z (seen.push e'.born) = (leftP Z seen).filter fun p => decide (p.1.born ≠ e'.born) := by
    unfold leftP
    rw [List.filter_filter]
    refine List.filter_congr fun p _ => ?_
    by_cases h : p.1.born = e'.born
    · simp [h]
    · simp [h]
  have hsub : ((leftP Z seen).map (·.1.born)).Nodup := hn.sublist ((List.filter_sublist).map _)
  rw [hAB] at hsub
  rw [List.map_append, List.map_cons] at hsub
  rw [h1, hAB, List.filter_append, List.filter_cons_of_neg (by simp)]
  have hA : ∀ p ∈ A, p.1.born ≠ e'.born := by
    intro p hp e
    have : p.1.born ∈ A.map (·.1.born) := List.mem_map_of_mem hp
    rw [List.nodup_append] at hsub
    exact hsub.2.2 _ this e'.born (by simp) e
  have hB : ∀ p ∈ B, p.1.born ≠ e'.born := by
    intro p hp e
    have : p.1.born ∈ B.map (·.1.born) := List.mem_map_of_mem hp
    rw [List.nodup_append] at hsub
    have h2 := (List.nodup_cons.1 hsub.2.1).1
    exact h2 (e ▸ this)
  rw [List.filter_eq_self.2 (by simpa using hA), List.filter_eq_self.2 (by simpa using hB)]
end

/-- A walk over a map under way: the iterator's block. -/
def MapIt (W : World) (r hm : Nat) (es : Array MapEntry) (clock : Nat) (seen : Array Nat) : Prop := ∃ c0, W.heap[r]? = some (.mapIter (some hm) clock seen c0) ∧ W.heap[hm]? = some (.map es clock) ∧ clock ≤ c0
theorem MapIt.lt {W : World} {r hm : Nat} {es : Array MapEntry} {clock : Nat} {seen : Array Nat} (h : MapIt W r hm es clock seen) : r < W.heap.size ∧ hm < W.heap.size := by
  obtain ⟨c0, h1, h2, _⟩ := h
  exact ⟨(Array.getElem?_eq_some_iff.1 h1).1, (Array.getElem?_eq_some_iff.1 h2).1⟩
theorem MapIt.kept {S : Nat → Prop} {W W' : World} {r hm : Nat} {es : Array MapEntry} {clock : Nat} {seen : Array Nat} (h : MapIt W r hm es clock seen) (k : Kept S W W') (h1 : ¬ S r) (h2 : ¬ S hm) : MapIt W' r hm es clock seen := by
  have hl := h.lt
  obtain ⟨c0, e1, e2, e3⟩ := h
  exact ⟨c0, (k.block r hl.1 h1).trans e1, (k.block hm hl.2 h2).trans e2, e3⟩
theorem MapIt.start {P : Program} (W : World) {t k e : TypeId} {hm : Nat} {es : Array MapEntry} {clock : Nat} (ht : P.underlying t = some (.map k e)) (hb : W.heap[hm]? = some (.map es clock)) :
    ∃ W1, (Instr.range t (.map (some hm))).run P W = .ok (.pointer (some ⟨W.heap.size, 0, none⟩)) W1 ∧ MapIt W1 W.heap.size hm es clock #[] ∧ Kept (fun _ => False) W W1 := by
  refine ⟨_, run_range_map W t k e hm es clock ht hb, ⟨clock, heap_alloc_new W _, ?_, Nat.le_refl _⟩, Kept.one_alloc W _⟩
  exact ((Kept.one_alloc W _).block hm (Array.getElem?_eq_some_iff.1 hb).1 (fun e => e)).trans hb
theorem MapIt.left {W : World} {r hm : Nat} {es : Array MapEntry} {clock : Nat} {seen : Array Nat} (h : MapIt W r hm es clock seen) : W.rangeLeft hm r = (leftOf es seen).size := by
  obtain ⟨c0, h1, h2, _⟩ := h
  simp only [World.rangeLeft, h1, h2]
/-- The step. -/
theorem MapIt.next {P : Program} {W : World} {r hm : Nat} {es : Array MapEntry} {clock : Nat} {seen : Array Nat} (h : MapIt W r hm es clock seen) (hs : Stamped es clock) (ty : TypeId) :
    ((leftOf es seen).size = 0 ∧ (Instr.next (.pointer (some ⟨r, 0, none⟩)) false ty).run P W = .ok (.tuple #[.bool false]) W) ∨
    ∃ e ∈ (leftOf es seen).toList, ∃ W1, (Instr.next (.pointer (some ⟨r, 0, none⟩)) false ty).run P W = .ok (.tuple #[.bool true, e.key, e.val]) W1 ∧ MapIt W1 r hm es clock (seen.push e.born) ∧ Kept (fun b => b = r) W W1 ∧ W1.heap.size = W.heap.size ∧
      (Instr.entry (.pointer (some ⟨r, 0, none⟩))).run P W1 = .ok (.tuple #[e.key, e.val]) W1 := by
  have hl := h.lt
  obtain ⟨c0, e1, e2, e3⟩ := h
  have hst := (stamped_iff es clock).1 hs
  rcases run_next_at (P := P) W ty r hm clock c0 seen es clock e1 e2 hst.1 e3 with h | ⟨e, he, w1, hw1, hrun⟩
  · exact .inl h
  · refine .inr ⟨e, he, _, hrun, ?_⟩
    have t1 : Twin w1 W := by rcases hw1 with rfl | rfl; exact Twin.refl _; exact twin_drew _
    have k1 : Kept (fun b => b = r) W (w1.putObj r (.mapIter (some hm) clock (seen.push e.born) clock)) := ((Kept.refl _ W).twin t1).trans (kept_putObj w1 r _) (fun _ _ e => e)
    have hne : hm ≠ r := fun e => by rw [e, e1] at e2; cases e2
    have hr1 : (w1.putObj r (.mapIter (some hm) clock (seen.push e.born) clock)).heap[r]? = some (.mapIter (some hm) clock (seen.push e.born) clock) := World.putObj_heap_same (by rw [t1.heap]; exact hl.1)
    have hm1 := (k1.block hm hl.2 hne).trans e2
    have hes : e ∈ es.toList := by
      unfold leftOf at he
      simp at he ⊢
      exact he.1
    exact ⟨⟨clock, hr1, hm1, Nat.le_refl _⟩, k1, by show (w1.putObj r _).heap.size = _; rw [World.putObj_size, t1.heap], run_entry_at _ r hm clock seen es clock e hr1 hm1 hes hst.2.1⟩
end Go.Proofs.YtdkcnigghcbnpaaGreat
