/- Ranging over a function: what an iterator owes to whoever ranges over it, and the statement's law. No program is named here. -/
import Derived.Test.YtdkcnigghcbnpaaGreatGenC
import Derived.LaidEqlPtr
import Derived.Deep.LoopGhost
namespace Go.Proofs.YtdkcnigghcbnpaaGreat
set_option linter.unusedVariables false
set_option linter.unusedSimpArgs false
open Go.RowKit

section
variable {P : Program} (w : World)
theorem run_neq_ptr_same {tp te n : TypeId} (a : Addr) (hp : P.underlying tp = some (.pointer te)) (hn : (P.info? te).map (·.size) = some n) :
    (binOp .neq tp (.pointer (some a)) (.pointer (some a))).run P w = .ok (.bool false) w := by
  obtain ⟨j, hte, _⟩ := Option.map_eq_some_iff.1 hn
  have h : ∀ d : Nat, (Op.equalIn (d + 1) tp (.pointer (some a)) (.pointer (some a))).run P w = .ok true w := fun d => by
    simp [Op.equalIn, run_underlying hp, sizeOf, typeInfo, hte, run_sameAddr_same]
  simp only [binOp]
  simp [Op.equal, Op.maxDepth, h 9999]
theorem run_neq_ptr_other {tp te n na nb : Nat} {a b : Addr} (hp : P.underlying tp = some (.pointer te)) (hn : (P.info? te).map (·.size) = some (n + 1))
    (hne : a ≠ b) (ra : RowAt w a.block na) (rb : RowAt w b.block nb) :
    (binOp .neq tp (.pointer (some a)) (.pointer (some b))).run P w = .ok (.bool true) w := by
  obtain ⟨j, hte, hj⟩ := Option.map_eq_some_iff.1 hn
  have hsz : j.size ≠ 0 := by omega
  obtain ⟨ca, ta, ha, _⟩ := ra
  obtain ⟨cb, tb, hb, _⟩ := rb
  have h : ∀ d : Nat, (Op.equalIn (d + 1) tp (.pointer (some a)) (.pointer (some b))).run P w = .ok false w := fun d => by
    simp [Op.equalIn, run_underlying hp, sizeOf, typeInfo, hte, hsz, run_sameAddr_other w hne ha hb]
  simp only [binOp]
  simp [Op.equal, Op.maxDepth, h 9999]
theorem run_eq_nilFunc {t : TypeId} {ps rs : Array TypeId} {vd : Bool} (fn : Fn) (fi ca : Array Value) (ht : P.underlying t = some (.func ps rs vd)) :
    (binOp .eql t (.func fn fi ca) .nilFunc).run P w = .ok (.bool false) w := by
  have h : ∀ d : Nat, (Op.equalIn (d + 1) t (.func fn fi ca) .nilFunc).run P w = .ok false w := fun d => by
    simp [Op.equalIn, run_underlying ht]
  simp only [binOp]
  simp [Op.equal, Op.maxDepth, h 9999]
end

/-- A call of a function that has a body goes into it. -/
theorem enters_body {P : Program} {f : FuncId} {fn : Func} {c : Code} (hf : P.funcs[f]? = some fn) (hname : (fn.name == "runtime.NumGoroutine") = false) (hb : fn.body = some c) (args : Array Value) (w : World) : (callFunc f args).run P w = .ok (.enter f args) w := by
  have h1 : fn.name ≠ "runtime.NumGoroutine" := by simpa using hname
  simp [callFunc, hf, h1, hb, mark]

/-- yield, called with these arguments, comes to R (one round of the loop of record l). -/
def YieldsTo (P : Program) (l : Nat) (args : Array Value) (W : World) (R : Ending → World → Prop) : Prop :=
  ∃ fn tmps assign body, (Instr.yield l args).run P W = .ok (.round l fn tmps assign body) W ∧ RoundIn (WR none) 0 P l fn tmps assign body W R

theorem YieldsTo.mono {P : Program} {l : Nat} {args : Array Value} {W : World} {R R' : Ending → World → Prop} (h : YieldsTo P l args W R) (hr : ∀ e w, R e w → R' e w) : YieldsTo P l args W R' :=
  let ⟨fn, t, a, b, h1, h2⟩ := h; ⟨fn, t, a, b, h1, h2.mono hr⟩

/-- From W to W' only blocks of U have changed; U has grown by blocks that are new. -/
structure Grow (U U' : Nat → Prop) (W W' : World) : Prop where
  kept : Kept U W W'
  sub : ∀ b, U b → U' b
  new : ∀ b, U' b → U b ∨ W.heap.size ≤ b
  lt : ∀ b, U' b → b < W'.heap.size

theorem Grow.refl {U : Nat → Prop} {W : World} (h : ∀ b, U b → b < W.heap.size) : Grow U U W W := ⟨.refl _ _, fun _ h => h, fun _ h => .inl h, h⟩
theorem Grow.trans {U U' U'' : Nat → Prop} {W W' W'' : World} (h : Grow U U' W W') (k : Grow U' U'' W' W'') : Grow U U'' W W'' := by
  refine ⟨h.kept.trans k.kept (fun b hb hu => ?_), fun b hb => k.sub b (h.sub b hb), fun b hb => ?_, k.lt⟩
  · rcases h.new b hu with h1 | h1
    · exact h1
    · omega
  · rcases k.new b hb with h1 | h1
    · exact h.new b h1
    · exact .inr (Nat.le_trans h.kept.size h1)
/-- Steps of somebody else's, on blocks that are not in U. -/
theorem Grow.after {U U' : Nat → Prop} {W W' W'' : World} {T : Nat → Prop} (h : Grow U U' W W') (k : Kept T W' W'') (hT : ∀ b, T b → b < W.heap.size → U b) : Grow U U' W W'' :=
  ⟨h.kept.trans k (fun b hb ht => hT b ht hb), h.sub, h.new, fun b hb => Nat.lt_of_lt_of_le (h.lt b hb) k.size⟩
theorem Grow.before {U U' : Nat → Prop} {W W' W'' : World} {T : Nat → Prop} (k : Kept T W W') (h : Grow U U' W' W'') (hT : ∀ b, T b → b < W.heap.size → U b) : Grow U U' W W'' :=
  ⟨(k.mono (S' := U) (fun b hb e => hT b e hb)).trans h.kept (fun _ _ e => e), h.sub, fun b hb => (h.new b hb).imp id (fun e => Nat.le_trans k.size e), h.lt⟩

/-- An iterator: closure gf with captured values lb; it tells the items, one behind the other; it reads the blocks D (Rd); whoever is told keeps to blocks of his own, U. -/
def IterC {α : Type} (P : Program) (gf : Nat) (lb : Array Value) (encs : α → Array Value) (items : List α) (D : Nat → Prop) (Rd : World → Prop) : Prop :=
  ∀ (l : Nat) (J : List α → (Nat → Prop) → World → Prop) (Jx : (Nat → Prop) → World → Prop) (U : Nat → Prop) (W : World),
    (∀ pre U W W', J pre U W → Kept (fun b => ¬ U b) W W' → J pre U W') →
    (∀ U W W', Jx U W → Kept (fun b => ¬ U b) W W' → Jx U W') →
    (∀ pre x rest U W, items = pre ++ x :: rest → J pre U W → (∀ b, U b → ¬ D b) → (∀ b, U b → b < W.heap.size) → Rd W →
      YieldsTo P l (encs x) W fun e W' => ∃ U', Grow U U' W W' ∧ ((e = .returned (.bool true) ∧ J (pre ++ [x]) U' W') ∨ (e = .returned (.bool false) ∧ Jx U' W'))) →
    J [] U W → (∀ b, U b → ¬ D b) → (∀ b, U b → b < W.heap.size) → Rd W →
    CallsIn (WR none) 0 P gf (#[.func (.yield l) #[] #[]] ++ lb) W fun e W' => ∃ v U', e = .returned v ∧ Grow U U' W W' ∧ (J items U' W' ∨ Jx U' W')

/-- What a round's body owes at its end: I behind one item more, or the way out c with Ix c. l: the loop's record. -/
def roundEnd {α : Type} (I : List α → (Nat → Prop) → World → Prop) (Ix : Code → (Nat → Prop) → World → Prop) (pre : List α) (U : Nat → Prop) (l : Nat) (W W₂ : World) : Exit → Act → World → Prop
  | .normal, _, W₃ => W₃.heap[l]? = W₂.heap[l]? ∧ ∃ U₃, Grow (fun b => U b ∨ b = l) (fun b => U₃ b ∨ b = l) W W₃ ∧ ¬ U₃ l ∧ (∀ b, U b → U₃ b) ∧ I pre U₃ W₃
  | .ret, _, W₃ => W₃.heap[l]? = W₂.heap[l]? ∧ ∃ U₃, Grow (fun b => U b ∨ b = l) (fun b => U₃ b ∨ b = l) W W₃ ∧ ¬ U₃ l ∧ (∀ b, U b → U₃ b) ∧ Ix .ret U₃ W₃
  | .exit id, _, W₃ => W₃.heap[l]? = W₂.heap[l]? ∧ ∃ U₃, Grow (fun b => U b ∨ b = l) (fun b => U₃ b ∨ b = l) W W₃ ∧ ¬ U₃ l ∧ (∀ b, U b → U₃ b) ∧ Ix (.exit id) U₃ W₃
  | .goto t, _, W₃ => W₃.heap[l]? = W₂.heap[l]? ∧ ∃ U₃, Grow (fun b => U b ∨ b = l) (fun b => U₃ b ∨ b = l) W W₃ ∧ ¬ U₃ l ∧ (∀ b, U b → U₃ b) ∧ Ix (.goto t) U₃ W₃
  | _, _, _ => False

theorem kept_putObj (W : World) (l : Nat) (o : Obj) : Kept (fun b => b = l) W (W.putObj l o) :=
  ⟨rfl, rfl, rfl, by simp, fun k _ hn => World.putObj_heap_other hn⟩

/-- **'for .. := range g { .. }', outside of any other such loop.** -/
theorem wpW_range {α : Type} {P : Program} {g : Operand} {ps : Array Tmp} {assign body : Code} {Q : Exit → Act → World → Prop} {a : Act} {w : World} {n gf : Nat} {lb : Array Value}
    {encs : α → Array Value} {items : List α} {D : Nat → Prop} {Rd : World → Prop} (hit : IterC P gf lb encs items D Rd)
    (hg : a.eval g = .func (.func gf) #[] lb) (eg : ∀ args w, (callFunc gf args).run P w = .ok (.enter gf args) w) (hps : ∀ x, (encs x).size = ps.size)
    (I : List α → (Nat → Prop) → World → Prop) (Ix : Code → (Nat → Prop) → World → Prop) (U : Nat → Prop)
    (hI : ∀ pre U W W', I pre U W → Kept (fun b => ¬ U b) W W' → I pre U W') (hIx : ∀ c U W W', Ix c U W → Kept (fun b => ¬ U b) W W' → Ix c U W')
    (hD : ∀ b, U b → ¬ D b) (hDlt : ∀ b, D b → b < w.heap.size) (hlt : ∀ b, U b → b < w.heap.size) (hRd : Rd w) (hRdk : ∀ W W', Rd W → Kept (fun b => ¬ D b) W W' → Rd W') (h0 : I [] U w)
    (hround : ∀ l pre x rest U' W, items = pre ++ x :: rest → I pre U' W → (∀ b, U' b → b < W.heap.size) → (∀ b, U' b → ¬ D b) → Rd W → ¬ U' l → ¬ D l → l < W.heap.size → (∀ b, U b → U' b) →
      assign.wpIn (WR (some l)) 0 P (Exit.then (fun a₁ W₁ => W₁.heap[l]? = W.heap[l]? ∧ ∀ W₂, Kept (fun b => b = l) W₁ W₂ → W₂.heap.size = W₁.heap.size → body.wpIn (WR (some l)) 0 P (roundEnd I Ix (pre ++ [x]) U' l W W₂) a₁ W₂) (fun _ _ _ => False))
        { tmps := (ps.zip (encs x)).foldl (fun t (p, v) => t.setIfInBounds p v) a.tmps, defers := [] } W)
    (hdone : ∀ dk U₃ W₃, I items U₃ W₃ → Kept U w W₃ → Rd W₃ → W₃.heap[dk]? = some (.deferred (some [])) → w.heap.size ≤ dk → ¬ U₃ dk → (∀ b, U b → U₃ b) → (∀ b, U₃ b → U b ∨ w.heap.size ≤ b) → (∀ b, U₃ b → b < W₃.heap.size) →
      Q .normal { a with defers := { target := .collected dk, args := #[] } :: a.defers } W₃)
    (hstop : ∀ c dk U₃ W₃, Ix c U₃ W₃ → Kept U w W₃ → Rd W₃ → W₃.heap[dk]? = some (.deferred (some [])) → w.heap.size ≤ dk → ¬ U₃ dk → (∀ b, U b → U₃ b) → (∀ b, U₃ b → U b ∨ w.heap.size ≤ b) → (∀ b, U₃ b → b < W₃.heap.size) →
      c.wpIn (WR none) n P Q { a with defers := { target := .collected dk, args := #[] } :: a.defers } W₃) :
    (Code.rangeFunc g ps assign body).wpIn (WR none) n P Q a w := by
  refine wpIn_rangeFunc ?_
  intro fn hfn
  obtain ⟨rec, hrec⟩ : ∃ rec : LoopState → Option Code → Loop, rec = fun st pe => { state := st, pending := pe, fn, tmps := a.tmps, params := ps, assign, body, defers := w.heap.size } := ⟨_, rfl⟩
  obtain ⟨W1, hW1⟩ : ∃ W1, (w.alloc (.deferred (some []))).alloc (.loop (rec .ready none)) = W1 := ⟨_, rfl⟩
  obtain ⟨dk, hdk⟩ : ∃ dk, dk = w.heap.size := ⟨_, rfl⟩
  have hsz : W1.heap.size = dk + 2 := by rw [← hW1, hdk]; simp
  have hL1 : W1.heap[dk + 1]? = some (.loop (rec .ready none)) := by
    rw [← hW1, hdk]; have := World.alloc_heap_new (w.alloc (.deferred (some []))) (.loop (rec .ready none)); rwa [World.size_alloc] at this
  have hK1 : W1.heap[dk]? = some (.deferred (some [])) := by
    rw [← hW1, hdk]; exact (Below.heap_alloc _ _ _ (by simp)).trans (World.alloc_heap_new w _)
  have hkw : Kept (fun _ => False) w W1 := by rw [← hW1]; exact ((Kept.refl _ w).alloc _).alloc _
  refine ⟨dk + 1, [{ target := .collected dk, args := #[] }], W1, { target := .fn (.func gf) lb, args := #[.func (.yield (dk + 1)) #[] #[]] }, W1, gf,
    #[.func (.yield (dk + 1)) #[] #[]] ++ lb, W1, ?_, ?_, fun _ _ => trivial, ?_, (fun e => by cases e), ?_⟩
  · rw [← hW1, hrec, hdk]; exact run_enterLoop_outer _ _ _ _ _
  · simp only [resolve, hg]
    simp [go_sem]
  · simp [invoke, go_sem, eg]
  · rw [callsIn_WR]
    have hUl : ¬ U (dk + 1) ∧ ¬ U dk := ⟨fun h => by have := hlt _ h; omega, fun h => by have := hlt _ h; omega⟩
    refine (callsIn_WR.1 (hit (dk + 1)
      (fun pre V W => ∃ Ui, (∀ b, V b ↔ Ui b ∨ b = dk + 1 ∨ b = dk) ∧ ¬ Ui (dk + 1) ∧ ¬ Ui dk ∧ (∀ b, U b → Ui b) ∧ I pre Ui W ∧ W.heap[dk + 1]? = some (.loop (rec .ready none)) ∧ W.heap[dk]? = some (.deferred (some [])))
      (fun V W => ∃ c Ui, (∀ b, V b ↔ Ui b ∨ b = dk + 1 ∨ b = dk) ∧ ¬ Ui (dk + 1) ∧ ¬ Ui dk ∧ (∀ b, U b → Ui b) ∧ Ix c Ui W ∧ W.heap[dk + 1]? = some (.loop (rec .done (some c))) ∧ W.heap[dk]? = some (.deferred (some [])))
      (fun b => U b ∨ b = dk + 1 ∨ b = dk) W1 ?_ ?_ ?_ ?_ ?_ ?_ ?_)).mono ?_
    · rintro pre V W W' ⟨Ui, hV, h1, h2, hs, hi, hl, hk⟩ k
      have hltl := (Array.getElem?_eq_some_iff.1 hl).1
      have hltk := (Array.getElem?_eq_some_iff.1 hk).1
      refine ⟨Ui, hV, h1, h2, hs, hI _ _ _ _ hi (k.mono fun b _ hn hu => hn ((hV b).2 (.inl hu))), (k.block _ hltl (fun hn => hn ((hV _).2 (.inr (.inl rfl))))).trans hl, (k.block _ hltk (fun hn => hn ((hV _).2 (.inr (.inr rfl))))).trans hk⟩
    · rintro V W W' ⟨c, Ui, hV, h1, h2, hs, hi, hl, hk⟩ k
      have hltl := (Array.getElem?_eq_some_iff.1 hl).1
      have hltk := (Array.getElem?_eq_some_iff.1 hk).1
      refine ⟨c, Ui, hV, h1, h2, hs, hIx _ _ _ _ hi (k.mono fun b _ hn hu => hn ((hV b).2 (.inl hu))), (k.block _ hltl (fun hn => hn ((hV _).2 (.inr (.inl rfl))))).trans hl, (k.block _ hltk (fun hn => hn ((hV _).2 (.inr (.inr rfl))))).trans hk⟩
    · rintro pre x rest V W hitems ⟨Ui, hV, h1, h2, hs, hi, hl, hk⟩ hVD hVlt hR
      have hltl := (Array.getElem?_eq_some_iff.1 hl).1
      have hltk := (Array.getElem?_eq_some_iff.1 hk).1
      have hy := run_yield (P := P) (args := encs x) hl (by rw [hrec]; exact hps x)
      rw [hrec] at hy
      refine ⟨fn, _, assign, body, hy, roundIn_of_wpIn trivial ?_⟩
      refine wpIn_mono (hround (dk + 1) pre x rest Ui W hitems hi (fun b hb => hVlt b ((hV b).2 (.inl hb))) (fun b hb => hVD b ((hV b).2 (.inl hb))) hR h1 (fun hd => by have := hDlt _ hd; omega) hltl hs) ?_
      rintro e a₁ W₁ hq
      cases e with
      | normal =>
        obtain ⟨hl₁, hnext⟩ := hq
        have hl₁' := hl₁.trans hl
        have hlt₁ := (Array.getElem?_eq_some_iff.1 hl₁').1
        refine ⟨_, run_beginRound hl₁' (by rw [hrec]), ?_⟩
        refine wpIn_mono (hnext _ (kept_putObj W₁ (dk + 1) _) (by simp)) ?_
        have hl₂ : (W₁.putObj (dk + 1) (.loop { rec .ready none with state := .busy })).heap[dk + 1]? = some (.loop { rec .ready none with state := .busy }) := World.putObj_heap_same hlt₁
        have fin : ∀ (jump : Option Code) (W3 : World), W3.heap[dk + 1]? = (W₁.putObj (dk + 1) (.loop { rec .ready none with state := .busy })).heap[dk + 1]? →
            (Instr.endRound (dk + 1) jump).run P W3 = .ok (.bool jump.isNone) (W3.putObj (dk + 1) (.loop (rec (if jump.isNone then .ready else .done) jump))) ∧
            (W3.putObj (dk + 1) (.loop (rec (if jump.isNone then .ready else .done) jump))).heap[dk + 1]? = some (.loop (rec (if jump.isNone then .ready else .done) jump)) := fun jump W3 hk3 => by
          have hl3 := hk3.trans hl₂
          have := run_endRound (P := P) jump hl3
          rw [hrec] at this ⊢
          exact ⟨this, World.putObj_heap_same (Array.getElem?_eq_some_iff.1 hl3).1⟩
        have rest : ∀ (U₃ : Nat → Prop) (W3 : World) (o : Obj), Grow (fun b => Ui b ∨ b = dk + 1) (fun b => U₃ b ∨ b = dk + 1) W W3 → ¬ U₃ (dk + 1) →
            Grow V (fun b => U₃ b ∨ b = dk + 1 ∨ b = dk) W (W3.putObj (dk + 1) o) ∧ ¬ U₃ dk ∧ Kept (fun b => ¬ U₃ b) W3 (W3.putObj (dk + 1) o) ∧ (W3.putObj (dk + 1) o).heap[dk]? = some (.deferred (some [])) := by
          intro U₃ W3 o gr hn
          have hndk : ¬ U₃ dk := fun hu => by
            rcases gr.new dk (.inl hu) with (h | h) | h
            · exact h2 h
            · omega
            · omega
          have hkk : Kept V W W3 := gr.kept.mono fun b _ hb => (hV b).2 (hb.elim .inl (fun e => .inr (.inl e)))
          refine ⟨⟨hkk.trans (kept_putObj W3 (dk + 1) o) (fun b _ e => (hV b).2 (.inr (.inl e))), fun b hb => ?_, fun b hb => ?_, fun b hb => ?_⟩, hndk, ?_, ?_⟩
          · rcases (hV b).1 hb with h | h | h
            · exact (gr.sub b (.inl h)).elim .inl (fun e => .inr (.inl e))
            · exact .inr (.inl h)
            · exact .inr (.inr h)
          · rcases hb with h | h | h
            · exact (gr.new b (.inl h)).imp (fun e => (hV b).2 (e.elim .inl (fun e => .inr (.inl e)))) id
            · exact .inl ((hV b).2 (.inr (.inl h)))
            · exact .inl ((hV b).2 (.inr (.inr h)))
          · rw [World.putObj_size]
            rcases hb with h | h | h
            · exact gr.lt b (.inl h)
            · exact gr.lt b (.inr h)
            · subst h; exact Nat.lt_of_lt_of_le hltk gr.kept.size
          · exact (kept_putObj W3 (dk + 1) o).mono fun b _ e => by subst e; exact hn
          · refine (World.putObj_heap_other (by omega)).trans ((gr.kept.block dk hltk ?_).trans hk)
            rintro (h | h)
            · exact h2 h
            · omega
        rintro e a3 W3 hp
        cases e with
        | normal =>
          obtain ⟨hk3, U₃, gr, hn, hsub, hi3⟩ := hp
          obtain ⟨hr, hl4⟩ := fin none W3 hk3
          obtain ⟨g1, g2, g3, g4⟩ := rest U₃ W3 (.loop (rec .ready none)) gr hn
          exact ⟨_, _, hr, _, g1, .inl ⟨rfl, U₃, fun _ => Iff.rfl, hn, g2, fun b hb => hsub b (hs b hb), hI _ _ _ _ hi3 g3, hl4, g4⟩⟩
        | ret =>
          obtain ⟨hk3, U₃, gr, hn, hsub, hi3⟩ := hp
          obtain ⟨hr, hl4⟩ := fin (some .ret) W3 hk3
          obtain ⟨g1, g2, g3, g4⟩ := rest U₃ W3 (.loop (rec .done (some .ret))) gr hn
          exact ⟨_, _, hr, _, g1, .inr ⟨rfl, .ret, U₃, fun _ => Iff.rfl, hn, g2, fun b hb => hsub b (hs b hb), hIx _ _ _ _ hi3 g3, hl4, g4⟩⟩
        | exit id =>
          obtain ⟨hk3, U₃, gr, hn, hsub, hi3⟩ := hp
          obtain ⟨hr, hl4⟩ := fin (some (.exit id)) W3 hk3
          obtain ⟨g1, g2, g3, g4⟩ := rest U₃ W3 (.loop (rec .done (some (.exit id)))) gr hn
          exact ⟨_, _, hr, _, g1, .inr ⟨rfl, .exit id, U₃, fun _ => Iff.rfl, hn, g2, fun b hb => hsub b (hs b hb), hIx _ _ _ _ hi3 g3, hl4, g4⟩⟩
        | goto t =>
          obtain ⟨hk3, U₃, gr, hn, hsub, hi3⟩ := hp
          obtain ⟨hr, hl4⟩ := fin (some (.goto t)) W3 hk3
          obtain ⟨g1, g2, g3, g4⟩ := rest U₃ W3 (.loop (rec .done (some (.goto t)))) gr hn
          exact ⟨_, _, hr, _, g1, .inr ⟨rfl, .goto t, U₃, fun _ => Iff.rfl, hn, g2, fun b hb => hsub b (hs b hb), hIx _ _ _ _ hi3 g3, hl4, g4⟩⟩
        | panic ch => exact hp.elim
        | outgrown => exact hp.elim
      | ret => exact hq.elim
      | exit id => exact hq.elim
      | goto t => exact hq.elim
      | panic ch => exact hq.elim
      | outgrown => exact hq.elim
    · exact ⟨U, fun _ => Iff.rfl, hUl.1, hUl.2, fun _ h => h, hI _ _ _ _ h0 (hkw.mono fun _ _ e => e.elim), hL1, hK1⟩
    · rintro b (h | h | h) hd
      · exact hD b h hd
      · have := hDlt _ hd; omega
      · have := hDlt _ hd; omega
    · rintro b (h | h | h)
      · exact Nat.lt_of_lt_of_le (hlt b h) hkw.size
      · omega
      · omega
    · exact hRdk _ _ hRd (hkw.mono fun _ _ e => e.elim)
    · rintro e W2 ⟨v, V, rfl, gr, hend⟩
      have hkall : ∀ o, Kept U w (W2.putObj (dk + 1) o) := fun o => by
        refine ((hkw.mono (S' := U) fun _ _ e => e.elim).trans gr.kept ?_).trans (kept_putObj W2 (dk + 1) o) ?_
        · rintro b hb (h | h | h)
          · exact h
          · omega
          · omega
        · intro b hb e; omega
      have hnew : ∀ b, V b → (U b ∨ b = dk + 1 ∨ b = dk) ∨ w.heap.size ≤ b := fun b hb => (gr.new b hb).imp id (fun e => Nat.le_trans hkw.size e)
      have hRd2 : ∀ o, Rd (W2.putObj (dk + 1) o) := fun o => hRdk _ _ hRd ((hkall o).mono fun b _ hu hd => hD b hu hd)
      rcases hend with ⟨Ui, hV, h1, h2, hs, hi, hl, hk⟩ | ⟨c, Ui, hV, h1, h2, hs, hi, hl, hk⟩
      · refine ⟨none, _, by have := run_endLoop (P := P) hl (by rw [hrec]; simp); rw [hrec] at this; exact this, ?_⟩
        refine hdone dk Ui _ (hI _ _ _ _ hi ((kept_putObj W2 (dk + 1) _).mono fun b _ e => by subst e; exact h1)) (hkall _) (hRd2 _) ((World.putObj_heap_other (by omega)).trans hk) (by omega) h2 hs (fun b hb => ?_) (fun b hb => ?_)
        · rcases hnew b ((hV b).2 (.inl hb)) with (h | h | h) | h
          · exact .inl h
          · exact .inr (by omega)
          · exact .inr (by omega)
          · exact .inr h
        · rw [World.putObj_size]; exact gr.lt b ((hV b).2 (.inl hb))
      · refine ⟨some c, _, by have := run_endLoop (P := P) hl (by rw [hrec]; simp); rw [hrec] at this; exact this, ?_⟩
        refine hstop c dk Ui _ (hIx _ _ _ _ hi ((kept_putObj W2 (dk + 1) _).mono fun b _ e => by subst e; exact h1)) (hkall _) (hRd2 _) ((World.putObj_heap_other (by omega)).trans hk) (by omega) h2 hs (fun b hb => ?_) (fun b hb => ?_)
        · rcases hnew b ((hV b).2 (.inl hb)) with (h | h | h) | h
          · exact .inl h
          · exact .inr (by omega)
          · exact .inr (by omega)
          · exact .inr h
        · rw [World.putObj_size]; exact gr.lt b ((hV b).2 (.inl hb))
end Go.Proofs.YtdkcnigghcbnpaaGreat
