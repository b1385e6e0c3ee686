/- An iterator that ranges over another one, and whose loop's variables lie in memory. No program is named here. -/
import Derived.Test.YtdkcnigghcbnpaaGreatGenD
namespace Go.Proofs.YtdkcnigghcbnpaaGreat
set_option linter.unusedVariables false
set_option linter.unusedSimpArgs false
open Go.RowKit

/-- **As wpW_pass, where the loop's own variables lie in memory.** -/
theorem wpW_passA {α β : Type} {P : Program} {g : Operand} {ps : Array Tmp} {assign body : Code} {fn : Func} {T : Array Value} {Q : Exit → Act → World → Prop} {w : World} {gf : Nat} {lb : Array Value}
    {encs : α → Array Value} {Full : List α → Prop} {D : Nat → Prop} {Rd : World → Prop} (hit : IterG P gf lb encs Full D Rd)
    (hg : Act.eval ⟨T, []⟩ g = .func (.func gf) #[] lb) (eg : ∀ args w, (callFunc gf args).run P w = .ok (.enter gf args) w) (hps : ∀ x, (encs x).size = ps.size) (hres : fn.results = #[])
    (f : α → Option β) {oencs : β → Array Value} {OFull : List β → Prop} {OD : Nat → Prop} {ORd : World → Prop} {l : Nat} {J : List β → (Nat → Prop) → World → Prop} {Jx : (Nat → Prop) → World → Prop} {U : Nat → Prop} {W0 : World}
    (hJ : ∀ pre U W W', J pre U W → Kept (fun b => ¬ U b) W W' → J pre U W') (hJx : ∀ U W W', Jx U W → Kept (fun b => ¬ U b) W W' → Jx U W')
    (hY : ∀ pre x rest U' W', OFull (pre ++ x :: rest) → J pre U' W' → Grow U U' W0 W' → (∀ b, U' b → ¬ OD b) → ORd W' →
      YieldsTo P l (oencs x) W' fun e W'' => ∃ U'', Grow U' U'' W' W'' ∧ ((e = .returned (.bool true) ∧ J (pre ++ [x]) U'' W'') ∨ (e = .returned (.bool false) ∧ Jx U'' W'')))
    (hFO : ∀ xs, Full xs → OFull (xs.filterMap f)) (h0 : J [] U w) (hU : Kept U W0 w) (hUlt : ∀ b, U b → b < W0.heap.size) (hUD : ∀ b, U b → ¬ OD b) (hODlt : ∀ b, OD b → b < W0.heap.size)
    (hORd : ORd W0) (hORdk : ∀ W W', ORd W → Kept (fun b => ¬ OD b) W W' → ORd W')
    (X : Nat → Prop) (hX : ∀ b, X b → W0.heap.size ≤ b ∧ b < w.heap.size) (XR : World → Prop) (hXR : XR w) (hXRk : ∀ W W', XR W → Kept (fun b => ¬ X b) W W' → XR W')
    (hD : ∀ b, D b → b < w.heap.size ∧ ¬ U b ∧ ¬ X b) (hRd : Rd w) (hRdk : ∀ W W', Rd W → Kept (fun b => ¬ D b) W W' → Rd W')
    (hQn : ∀ a w, bodyPostM (WR none) 0 P fn (fun e W' => ∃ v U', e = .returned v ∧ Grow U U' W0 W' ∧ ((∃ items, OFull items ∧ J items U' W') ∨ Jx U' W')) .normal a w → Q .normal a w)
    (hQr : ∀ a w, bodyPostM (WR none) 0 P fn (fun e W' => ∃ v U', e = .returned v ∧ Grow U U' W0 W' ∧ ((∃ items, OFull items ∧ J items U' W') ∨ Jx U' W')) .ret a w → Q .ret a w)
    (hbody : ∀ l' pre x rest U' W, Full (pre ++ x :: rest) → l' < W.heap.size → (∀ b, U' b → b < W.heap.size) → ¬ U' l' →
      assign.wpIn (WR (some l')) 0 P (Exit.then (fun a₁ W₁ => Kept (fun _ => False) W W₁ ∧ ∀ W₂, Kept (fun b => b = l') W₁ W₂ → W₂.heap.size = W₁.heap.size → XR W₂ → Rd W₂ → ORd W₂ → J (pre.filterMap f) U' W₂ →
          (∀ y, f x = some y → ∀ W₃, Kept (fun _ => False) W₂ W₃ → W₃.heap.size = W₂.heap.size → YieldsTo P l (oencs y) W₃ fun e W'' => ∃ U'', Grow U' U'' W₃ W'' ∧ ((e = .returned (.bool true) ∧ J (pre.filterMap f ++ [y]) U'' W'') ∨ (e = .returned (.bool false) ∧ Jx U'' W''))) →
          body.wpIn (WR (some l')) 0 P (PassEnd J Jx ((pre ++ [x]).filterMap f) U' W₂) a₁ W₂) (fun _ _ _ => False))
        { tmps := (ps.zip (encs x)).foldl (fun t (p, v) => t.setIfInBounds p v) T, defers := [] } W) :
    (Code.rangeFunc g ps assign body).wpIn (WR none) 0 P Q ⟨T, []⟩ w := by
  have hUlt' : ∀ b, U b → b < w.heap.size := fun b h => Nat.lt_of_lt_of_le (hUlt b h) hU.size
  have hsz0 := hU.size
  have leave : ∀ (tm : Array Value) (dk : Nat) (U₃ : Nat → Prop) (W₃ : World), W₃.heap[dk]? = some (.deferred (some [])) → w.heap.size ≤ dk → ¬ U₃ dk → Grow U U₃ W0 W₃ → ((∃ items, OFull items ∧ J items U₃ W₃) ∨ Jx U₃ W₃) →
      LeavesInM (WR none) 0 P fn tm (fun e W' => ∃ v U', e = .returned v ∧ Grow U U' W0 W' ∧ ((∃ items, OFull items ∧ J items U' W') ∨ Jx U' W')) [{ target := .collected dk, args := #[] }] .returning W₃ := by
    intro tm dk U₃ W₃ hk hdk hn gr hj
    refine leaves_marks [dk] _ (by simp) (fun d hd => by rw [List.mem_singleton.1 hd]; exact hk) (fun W' kd => ?_)
    have kd' : Kept (fun b => ¬ U₃ b) W₃ W' := kd.mono fun b _ e => by rw [List.mem_singleton.1 e]; exact hn
    refine ⟨_, results_none hres _ _ _, _, U₃, rfl, gr.after kd (fun b e hb => by have := List.mem_singleton.1 e; omega), ?_⟩
    rcases hj with ⟨items, h1, h2⟩ | h
    · exact .inl ⟨items, h1, hJ _ _ _ _ h2 kd'⟩
    · exact .inr (hJx _ _ _ h kd')
  have grow : ∀ (Uo : Nat → Prop) (W : World), (∀ b, U b → Uo b) → (∀ b, Uo b → U b ∨ W0.heap.size ≤ b) → Kept (fun b => U b ∨ X b) w W → (∀ b, Uo b → b < W.heap.size) → Grow U Uo W0 W := by
    intro Uo W h1 h2 k h3
    refine ⟨hU.trans k (fun b hb e => ?_), h1, h2, h3⟩
    rcases e with e | e
    · exact e
    · have := (hX b e).1
      omega
  refine wpW_rangeG hit hg eg hps
    (fun pre V W => ∃ Uo, (∀ b, V b ↔ Uo b ∨ X b) ∧ (∀ b, X b → ¬ Uo b) ∧ J (pre.filterMap f) Uo W ∧ XR W ∧ (∀ b, U b → Uo b) ∧ (∀ b, Uo b → U b ∨ W0.heap.size ≤ b))
    (fun c V W => c = .ret ∧ ∃ Uo, (∀ b, V b ↔ Uo b ∨ X b) ∧ Jx Uo W ∧ (∀ b, U b → Uo b) ∧ (∀ b, Uo b → U b ∨ W0.heap.size ≤ b))
    (fun b => U b ∨ X b) ?_ ?_ ?_ (fun b hb => (hD b hb).1) ?_ hRd hRdk ?_ ?_ ?_ ?_
  · rintro pre V W W' ⟨Uo, hV, hx, hj, hxr, h1, h2⟩ k
    exact ⟨Uo, hV, hx, hJ _ _ _ _ hj (k.mono fun b _ hn hu => hn ((hV b).2 (.inl hu))), hXRk _ _ hxr (k.mono fun b _ hn hu => hn ((hV b).2 (.inr hu))), h1, h2⟩
  · rintro c V W W' ⟨hc, Uo, hV, hj, h1, h2⟩ k
    exact ⟨hc, Uo, hV, hJx _ _ _ hj (k.mono fun b _ hn hu => hn ((hV b).2 (.inl hu))), h1, h2⟩
  · rintro b (h | h) hd
    · exact (hD b hd).2.1 h
    · exact (hD b hd).2.2 h
  · rintro b (h | h)
    · exact hUlt' b h
    · exact (hX b h).2
  · exact ⟨U, fun _ => Iff.rfl, fun b hx hu => by have := (hX b hx).1; have := hUlt b hu; omega, h0, hXR, fun _ h => h, fun _ h => .inl h⟩
  · rintro l' pre x rest V W hitems ⟨Uo, hV, hx, hj, hxr, h1, h2⟩ hkw hlt hVD hRdW hl hlD hlW hlw hUV
    have hUo : ∀ b, Uo b → b < W.heap.size := fun b hb => hlt b ((hV b).2 (.inl hb))
    have hlU : ¬ Uo l' := fun h => hl ((hV l').2 (.inl h))
    have hlX : ¬ X l' := fun h => hl ((hV l').2 (.inr h))
    refine wpIn_mono (hbody l' pre x rest Uo W hitems hlW hUo hlU) ?_
    rintro e a₁ W₁ hq
    cases e with
    | normal =>
      obtain ⟨kA, hnext⟩ := hq
      refine ⟨kA.block l' hlW (fun e => e), fun W₂ kl0 zl0 => ?_⟩
      have kl : Kept (fun b => b = l') W W₂ := (kA.mono fun _ _ e => e.elim).trans kl0 (fun _ _ e => e)
      have zl := kl.size
      have gr := grow Uo W h1 h2 hkw hUo
      have gr2 : Grow U Uo W0 W₂ := gr.after kl (fun b e hb => by omega)
      have kl' : Kept (fun b => ¬ Uo b) W W₂ := kl.mono fun b _ e => by rw [e]; exact hlU
      refine wpIn_mono (hnext W₂ kl0 zl0 (hXRk _ _ hxr (kl.mono fun b _ e => by rw [e]; exact hlX)) (hRdk _ _ hRdW (kl.mono fun b _ e => by rw [e]; exact hlD)) (hORdk _ _ hORd (gr2.kept.mono fun b _ hu hd => hUD b hu hd)) (hJ _ _ _ _ hj kl') ?_) ?_
      · intro y hy W₃ k₃ z₃
        have gr3 : Grow U Uo W0 W₃ := gr2.after k₃ (fun b e _ => e.elim)
        refine hY (pre.filterMap f) y (rest.filterMap f) Uo W₃ ?_ (hJ _ _ _ _ hj (kl'.trans k₃ (fun _ _ e => e.elim))) gr3 ?_ (hORdk _ _ hORd (gr3.kept.mono fun b _ hu hd => hUD b hu hd))
        · have := hFO _ hitems
          rw [List.filterMap_append, List.filterMap_cons_some hy] at this
          exact this
        · intro b hb hd
          rcases h2 b hb with h | h
          · exact hUD b h hd
          · have := hODlt b hd
            omega
      · have fin : ∀ (Un : Nat → Prop) (W₃ : World), Grow Uo Un W₂ W₃ → W₃.heap[l']? = W₂.heap[l']? ∧ Grow (fun b => V b ∨ b = l') (fun b => (Un b ∨ X b) ∨ b = l') W W₃ ∧ ¬ (Un l' ∨ X l') ∧ (∀ b, V b → Un b ∨ X b) ∧ XR W₃ ∧ (∀ b, U b → Un b) ∧ (∀ b, Un b → U b ∨ W0.heap.size ≤ b) ∧ (∀ b, X b → ¬ Un b) := by
          intro Un W₃ g
          have hlt2 : l' < W₂.heap.size := by omega
          have hnl : ¬ Un l' := fun h => by
            rcases g.new l' h with h | h
            · exact hlU h
            · omega
          refine ⟨g.kept.block l' hlt2 hlU, ⟨(kl.mono (S' := fun b => V b ∨ b = l') fun b _ e => .inr e).trans g.kept (fun b _ e => .inl ((hV b).2 (.inl e))), ?_, ?_, ?_⟩, ?_, ?_, ?_, fun b hb => g.sub b (h1 b hb), ?_, ?_⟩
          · rintro b (h | h)
            · exact .inl (((hV b).1 h).imp (g.sub b) id)
            · exact .inr h
          · rintro b ((h | h) | h)
            · rcases g.new b h with h | h
              · exact .inl (.inl ((hV b).2 (.inl h)))
              · exact .inr (by omega)
            · exact .inl (.inl ((hV b).2 (.inr h)))
            · exact .inl (.inr h)
          · rintro b ((h | h) | h)
            · exact g.lt b h
            · have := (hX b h).2
              have := hkw.size
              have := kl.size
              have := g.kept.size
              omega
            · have := g.kept.size
              omega
          · rintro (h | h)
            · exact hnl h
            · exact hlX h
          · intro b hb
            exact ((hV b).1 hb).imp (g.sub b) id
          · exact hXRk _ _ (hXRk _ _ hxr (kl.mono fun b _ e => by rw [e]; exact hlX)) (g.kept.mono fun b _ e hx' => hx b hx' e)
          · intro b hb
            rcases g.new b hb with h | h
            · exact h2 b h
            · exact .inr (by have := gr2.kept.size; omega)
          · intro b hb h
            rcases g.new b h with h | h
            · exact hx b hb h
            · have := (hX b hb).2
              have := hkw.size
              have := kl.size
              omega
        rintro e a₃ W₃ hp
        cases e with
        | normal =>
          obtain ⟨Un, g, hj3⟩ := hp
          obtain ⟨e1, e2, e3, e4, e5, e6, e7, e8⟩ := fin Un W₃ g
          exact ⟨e1, _, e2, e3, e4, Un, fun _ => Iff.rfl, e8, hj3, e5, e6, e7⟩
        | ret =>
          obtain ⟨Un, g, hj3⟩ := hp
          obtain ⟨e1, e2, e3, e4, e5, e6, e7, e8⟩ := fin Un W₃ g
          exact ⟨e1, _, e2, e3, e4, rfl, Un, fun _ => Iff.rfl, hj3, e6, e7⟩
        | exit id => exact hp.elim
        | goto t => exact hp.elim
        | panic ch => exact hp.elim
        | outgrown => exact hp.elim
    | ret => exact hq.elim
    | exit id => exact hq.elim
    | goto t => exact hq.elim
    | panic ch => exact hq.elim
    | outgrown => exact hq.elim
  · rintro items dk V W₃ hfull ⟨Uo, hV, hx, hj, hxr, h1, h2⟩ hkw hRdW hk hdk hdkn hUV hVn hVlt
    exact hQn _ _ (leave _ dk Uo W₃ hk hdk (fun h => hdkn ((hV dk).2 (.inl h))) (grow Uo W₃ h1 h2 hkw (fun b hb => hVlt b ((hV b).2 (.inl hb)))) (.inl ⟨_, hFO _ hfull, hj⟩))
  · rintro c dk V W₃ ⟨rfl, Uo, hV, hj, h1, h2⟩ hkw hRdW hk hdk hdkn hUV hVn hVlt
    refine wpIn_ret (hQr _ _ ?_)
    exact leave _ dk Uo W₃ hk hdk (fun h => hdkn ((hV dk).2 (.inl h))) (grow Uo W₃ h1 h2 hkw (fun b hb => hVlt b ((hV b).2 (.inl hb)))) (.inr hj)
end Go.Proofs.YtdkcnigghcbnpaaGreat
