/- What stands under the walks, part C. -/
import Derived.Test.YtdkcnigghcbnpaaGreatGenA
import Derived.StillTailTactics
import Derived.OrdersIn
import Derived.RangeFuncNested
import Derived.TacticsInMore
import Derived.OwnWalkIn
import Derived.LoopNIn
import Derived.LoopIn
import Derived.Maps.AppendAt
/- The walk inside the widest fence, in a round of a range over a function or outside of any: regions that draw their order. No program is named here. -/
namespace Go.Proofs.YtdkcnigghcbnpaaGreat
set_option linter.unusedVariables false
set_option linter.unusedSimpArgs false
open Go.RowKit

/-- The widest fence, in a round of loop l (some l), or outside of any (none). -/
abbrev WR (ro : Option Nat) : Fence := { fn := fun _ => True, depth := none, alive := false, round := ro }

theorem callsIn_WR {ro : Option Nat} {n : Nat} {P : Program} {f : FuncId} {args : Array Value} {w : World} {R : Ending → World → Prop} : CallsIn (WR ro) n P f args w R ↔ Calls P f args w R := by
  show CallsIn Fence.wide n P f args w R ↔ _
  exact callsIn_wide
theorem roundIn_any {ro ro' : Option Nat} {n n' : Nat} {P : Program} {l f : Nat} {tmps : Array Value} {assign body : Code} {w : World} {R : Ending → World → Prop} (h : RoundIn (WR ro) n P l f tmps assign body w R) : RoundIn (WR ro') n' P l f tmps assign body w R :=
  ⟨trivial, fun c cs _ => h.2 c cs (fun _ e => by cases e)⟩

section
variable {ro : Option Nat} {n : Nat} {P : Program} {ops : Array Oper} {md : Region.Mode} {w : World}

theorem wpStill_want {Q : Act → Prop} {a : Act} {o : Oper} {rest : List Oper} (hw : Region.wanted o (yielded ops a.tmps) = true)
    (h : ∀ K : Act → Prop, (∀ a, wpStill P ops w Q rest a → K a) → o.still P a w K) : wpStill P ops w Q (o :: rest) a :=
  wpStill_step fun K hK => by rw [if_pos hw]; exact h K hK
theorem wpStill_pass {Q : Act → Prop} {a : Act} {o : Oper} {rest : List Oper} (hw : Region.wanted o (yielded ops a.tmps) = false)
    (h : ∀ K : Act → Prop, (∀ a, wpStill P ops w Q rest a → K a) → K (a.put o.dst undef)) : wpStill P ops w Q (o :: rest) a :=
  wpStill_step fun K hK => by rw [hw]; exact h K hK

theorem not_defer {o : Oper} {a : Act} {next : Act → Prop} (h : o.still P a w next) : ∀ c, o.op ≠ .defer c := by
  intro c e
  unfold Oper.still at h
  rw [show (execOp a.eval o) = (do pure (.defer (← resolve a.eval c o.type))) by unfold execOp; rw [e]] at h
  simp only [Sem.run_bind] at h
  cases hr : (resolve a.eval c o.type).run P w with
  | ok d w1 => rw [hr] at h; simp [Result.andThen, Oper.stillUpon] at h
  | halt x w1 => rw [hr] at h; simp [Result.andThen, Oper.stillUpon] at h

theorem wpIn_of_still {o : Oper} {a : Act} {K : Act → Prop} {K' : Act → World → Prop} {Q' : Exit → Act → World → Prop} (h : ∀ a, K a → K' a w) (hh : o.still P a w K) : o.wpIn (WR ro) n P a w K' Q' := by
  refine ⟨fun _ _ => trivial, ?_⟩
  rw [Oper.semAt_eq _ _ _ (not_defer hh)]
  unfold Oper.still at hh
  generalize (execOp a.eval o).run P w = r at *
  cases r with
  | ok x w' =>
    cases x <;> simp only [Oper.stillUpon] at hh <;> simp only [Oper.uponIn]
    case enter f args =>
      obtain ⟨rfl, v, hc, hn⟩ := hh
      exact ⟨fun e => by simp at e, callsIn_WR.2 (hc.mono fun e w'' ⟨he, hw⟩ => by subst he; subst hw; exact h _ hn)⟩
    all_goals (obtain ⟨rfl, h2⟩ := hh; exact h _ h2)
  | halt x w' => simp only [Oper.stillUpon] at hh

theorem wpOpIn_of_stOp {i : Nat} {a : Act} {K : Act → Prop} {K' : Act → World → Prop} {Q' : Exit → Act → World → Prop} (h : ∀ a, K a → K' a w) (hh : stOp P ops w i K a) : wpOpIn (WR ro) n P ops Q' i K' a w := by
  unfold stOp at hh
  unfold wpOpIn
  split
  · rename_i ho; simp only [ho] at hh; exact h _ hh
  · rename_i o ho
    simp only [ho] at hh
    split
    · rename_i hw; simp only [hw, if_true] at hh; exact wpIn_of_still h hh
    · rename_i hw; simp only [hw] at hh; exact ⟨fun _ _ => trivial, h _ hh⟩

theorem wpAnyIn_of_still {Q : Act → Prop} {Q' : Exit → Act → World → Prop} (hQ : ∀ a, Q a → Q' .normal a w) : ∀ (fuel : Nat) (listed : Array Bool) (a : Act),
    wpAnyS P md ops w Q fuel listed a → wpAnyIn (WR ro) n P md ops Q' fuel listed a w
  | 0, _, _, h => ⟨h.1, hQ _ h.2⟩
  | fuel + 1, _, _, h => ⟨fun h0 => hQ _ (h.1 h0), fun i hi => wpOpIn_of_stOp (fun a' => wpAnyIn_of_still hQ fuel _ a') (h.2 i hi)⟩

/-- A region that only reads: one walk, in the text's order. -/
theorem wpW_region_still {id : Nat} {Q : Exit → Act → World → Prop} {a : Act} {l : List Oper} (hm : P.follows .mixedOrders = true) (hB : Region.lexB .any l.toArray = true)
    (h : wpStill P l.toArray { w with drawn := w.drawn + 1 } (fun a' => Q .normal a' { w with drawn := w.drawn + 1 }) l a) : (Code.region id l.toArray true).wpIn (WR ro) n P Q a w := by
  simp only [Region.lexB, Bool.and_eq_true] at hB
  refine wpIn_region_any hm (wpAnyIn_of_still (Q := fun a' => Q .normal a' { w with drawn := w.drawn + 1 }) (fun _ h => h) _ _ _ ?_)
  have := wpAnyS_lex (md := .any) hB.1 l 0 (Array.replicate l.toArray.size false) a (by simp) (by simpa using hB.2) h
  simpa using this

theorem wpAnyIn_of_head {m g : Nat} {L : Array Bool → Act → Prop} {Q' : Exit → Act → World → Prop} (hL : ∀ listed a, L listed a → wpAnyIn (WR ro) n P md ops Q' g listed a w) :
    ∀ (f : Nat) (listed : Array Bool) (a : Act), wpAnyL P md ops w m L f listed a → wpAnyIn (WR ro) n P md ops Q' (f + g) listed a w
  | 0, listed, a, h => by rw [Nat.zero_add]; exact hL _ _ h
  | f + 1, listed, a, h => by
    rw [show f + 1 + g = (f + g) + 1 by omega]
    exact ⟨fun h0 => absurd h0 h.1, fun i hi => wpOpIn_of_stOp (fun a' h' => wpAnyIn_of_head hL f _ a' h') (h.2 i hi).2⟩

theorem wpAnyIn_of_seq {Q' : Exit → Act → World → Prop} : ∀ (l : List Oper) (k : Nat) (listed : Array Bool) (a : Act) (w : World), (∀ j, l[j]? = ops[k + j]?) →
    Region.seqB md ops l.length k listed = true → wpListIn (WR ro) n P ops Q' l a w → wpAnyIn (WR ro) n P md ops Q' l.length listed a w
  | [], _, _, _, _, _, hB, h => ⟨by simpa [Region.seqB] using hB, h⟩
  | o :: l, k, listed, a, w, hl, hB, h => by
    have h0 : ops[k]? = some o := by simpa using (hl 0).symm
    simp only [List.length_cons, Region.seqB, Bool.and_eq_true, decide_eq_true_eq] at hB
    refine ⟨fun h1 => (by rw [hB.1] at h1; cases h1), fun i hi => ?_⟩
    rw [hB.1] at hi
    have hik : i = k := by simpa using hi
    subst hik
    have hw : wpOpIn (WR ro) n P ops Q' i (wpListIn (WR ro) n P ops Q' l) a w := by unfold wpOpIn; simp only [h0]; exact h
    exact wpOpIn_mono (fun a' w' h' => wpAnyIn_of_seq l (i + 1) _ a' w' (fun j => by have := hl (j + 1); simpa [Nat.add_assoc, Nat.add_comm 1 j] using this) hB.2 h') hw

/-- Reads, then a tail in one order. -/
theorem wpW_region_tail {id : Nat} {Q : Exit → Act → World → Prop} {a : Act} {l : List Oper} (m : Nat) (hm : P.follows .mixedOrders = true) (hB : Region.lexTailB .any l.toArray m = true)
    (h : wpStill P l.toArray { w with drawn := w.drawn + 1 } (fun a' => wpListIn (WR ro) n P l.toArray Q (l.drop m) a' { w with drawn := w.drawn + 1 }) (l.take m) a) : (Code.region id l.toArray true).wpIn (WR ro) n P Q a w := by
  simp only [Region.lexTailB, Bool.and_eq_true, decide_eq_true_eq] at hB
  obtain ⟨⟨⟨⟨hsel, hn⟩, hs⟩, hc⟩, hlex⟩ := hB
  have hn' : m < l.length := by simpa using hn
  have htl : (l.take m).length = m := by simp; omega
  have hdl : (l.drop m).length = l.toArray.size - m := by simp
  have inv0 : HeadInv .any l.toArray m (Array.replicate l.toArray.size false) :=
    ⟨by simp, fun j oj _ hl => (by rw [getD_replicate_false] at hl; cases hl), fun t _ ht => getD_in (by simpa using ht) (getD_replicate_false _ _)⟩
  have H := wpAnyL_lex (md := .any) (g := l.toArray.size - m) hsel hs hc hn (l.take m) 0 _ a (fun j hj => by
    have hj' : j < m := by rw [htl] at hj; exact hj
    simp [hj']) (by simpa using htl) inv0 (by rw [htl]; exact hlex) h
  refine wpIn_region_any hm ?_
  have := wpAnyIn_of_head (ro := ro) (n := n) (Q' := Q) (g := l.toArray.size - m) (fun listed a' hL => by
    have := wpAnyIn_of_seq (ro := ro) (n := n) (md := .any) (Q' := Q) (l.drop m) m listed a' { w with drawn := w.drawn + 1 } (fun j => by simp [List.getElem?_drop]) (by rw [hdl]; exact hL.1) hL.2
    rwa [hdl] at this) _ _ _ H
  rw [htl, show m + (l.toArray.size - m) = l.toArray.size by omega] at this
  exact this
end
end Go.Proofs.YtdkcnigghcbnpaaGreat

/- A loop in whose rounds functions are ranged over: each range leaves a mark among the deferred calls; the law of such a loop. No program is named here. -/
namespace Go.Proofs.YtdkcnigghcbnpaaGreat
set_option linter.unusedVariables false
set_option linter.unusedSimpArgs false
open Go.RowKit

/-- The marks of ranges, the last one first. -/
def marks (dl : List Nat) : List Deferred := dl.map fun d => { target := .collected d, args := #[] }
/-- A frame whose named slots hold something else. -/
def upd (T : Array Value) (slots : List Nat) (f : Nat → Value) : Array Value := slots.foldl (fun t s => t.setIfInBounds s (f s)) T
theorem upd_self (T : Array Value) (slots : List Nat) : upd T slots (fun s => T.getD s undef) = T := by
  induction slots with
  | nil => rfl
  | cons s l ih =>
    have h : T.setIfInBounds s (T.getD s undef) = T := by
      apply Array.ext
      · simp
      · intro i h1 h2
        by_cases e : s = i
        · subst e
          simp [Array.getElem_setIfInBounds, h2]
        · exact Array.getElem_setIfInBounds_ne h2 e
    unfold upd at ih ⊢
    rw [List.foldl_cons, h]
    exact ih

/-- What a round owes at its end. -/
def MarkEnd (T : Array Value) (slots : List Nat) (N : Nat) (Rel : List Nat → (Nat → Value) → World → Prop) (dl : List Nat) (a' : Act) (w' : World) : Prop :=
  ∃ dl', Rel dl' (fun s => a'.tmps.getD s undef) w' ∧ a' = ⟨upd T slots (fun s => a'.tmps.getD s undef), marks dl'⟩ ∧ dl.length < dl'.length ∧ dl'.length ≤ N

theorem wpIn_loop_marks {F : Fence} {n : Nat} {P : Program} {c : Code} {Q : Exit → Act → World → Prop} {w : World} {T : Array Value} (slots : List Nat) (N : Nat) (Rel : List Nat → (Nat → Value) → World → Prop)
    (h0 : Rel [] (fun s => T.getD s undef) w)
    (round : ∀ dl f wr, Rel dl f wr → dl.length ≤ N → c.wpIn F n P (Exit.then (MarkEnd T slots N Rel dl) Q) ⟨upd T slots f, marks dl⟩ wr) : (Code.loop c).wpIn F n P Q ⟨T, []⟩ w := by
  refine wpIn_loop (fun a' w' => ∃ dl f, Rel dl f w' ∧ a' = ⟨upd T slots f, marks dl⟩ ∧ dl.length ≤ N) (fun a' _ => N - a'.defers.length) ⟨[], _, h0, by rw [upd_self]; rfl, Nat.zero_le _⟩ ?_
  rintro a' w' ⟨dl, f, hr, rfl, hN⟩
  refine Code.wpIn_mono (fun e a2 w2 q => ?_) (round dl f w' hr hN)
  cases e with
  | normal =>
    obtain ⟨dl', h1, h2, h3, h4⟩ := q
    refine ⟨⟨dl', _, h1, h2, h4⟩, ?_⟩
    rw [h2]
    simp only [marks, List.length_map]
    omega
  | ret => exact q
  | exit id => exact q
  | goto t => exact q
  | panic ch => exact q
  | outgrown => exact q
end Go.Proofs.YtdkcnigghcbnpaaGreat

/- append onto a row of one's own, from whatever source: the new value written out. No program is named here. -/
namespace Go.Proofs.YtdkcnigghcbnpaaGreat
set_option linter.unusedVariables false
set_option linter.unusedSimpArgs false
open Go.RowKit

/-- The value of a row, written out. -/
theorem own_form {w : World} {base e size n : Nat} {v : Value} {xs : List Value} (h : w.ownsRow base e size v n xs) : ∃ a c, v = .slice a n c ∧ (0 < n → ∃ g, a = some ⟨g, 0, none⟩) ∧ (∀ ad, a = some ad → ad = ⟨ad.block, 0, none⟩) ∧ n ≤ c := by
  rcases h.2 with ⟨rfl, rfl⟩ | ⟨g, cap, cur, rfl, _, _, hc, _⟩
  · exact ⟨none, 0, rfl, (fun h => by omega), (fun _ e => by cases e), Nat.le_refl _⟩
  · exact ⟨_, cap, rfl, fun _ => ⟨g, rfl⟩, fun ad e => by cases e; rfl, hc⟩
theorem ownsRow_kept {w w' : World} {S : Nat → Prop} {base e size n : Nat} {v : Value} {xs : List Value} (h : w.ownsRow base e size v n xs) (k : Kept S w w') (hn : ∀ b, v.ownBlock = some b → ¬ S b) : w'.ownsRow base e size v n xs := by
  refine ⟨h.1, ?_⟩
  rcases h.2 with h1 | ⟨g, cap, cur, rfl, hb, hg, rest⟩
  · exact .inl h1
  · exact .inr ⟨g, cap, cur, rfl, hb, (k.block g (Array.getElem?_eq_some_iff.1 hg).1 (hn g rfl)).trans hg, rest⟩
theorem ownsRow_base {w : World} {base e size n : Nat} {v : Value} {xs : List Value} (h : w.ownsRow base e size v n xs) : w.ownsRow 0 e size v n xs := by
  refine ⟨h.1, ?_⟩
  rcases h.2 with h1 | ⟨g, cap, cur, rfl, hb, rest⟩
  · exact .inl h1
  · exact .inr ⟨g, cap, cur, rfl, by omega, rest⟩
theorem add_zero_off (g j : Nat) : (⟨g, 0, none⟩ : Addr).add j = ⟨g, j, none⟩ := by unfold Addr.add; split <;> simp_all
theorem add_off (g o j : Nat) : (⟨g, o, none⟩ : Addr).add j = ⟨g, o + j, none⟩ := by unfold Addr.add; split <;> simp_all
theorem own_cell {w : World} {base e size n g c : Nat} {xs : List Value} (h : w.ownsRow base e size (.slice (some ⟨g, 0, none⟩) n c) n xs) {j : Nat} {u : Value} (hj : xs[j]? = some u) : w.cell? ⟨g, j, none⟩ = some u := by
  have := h.cells (g := g) rfl j u hj
  rwa [add_zero_off] at this
theorem own_row {w : World} {base e size n g c : Nat} {xs : List Value} (h : w.ownsRow base e size (.slice (some ⟨g, 0, none⟩) n c) n xs) : RowAt w g (c * size) := by
  rcases h.2 with ⟨h1, _⟩ | ⟨g', cap, cur, hv, hb, hg, hn, hm, hs, _⟩
  · cases h1
  · cases hv
    exact ⟨cur, e, hg, hs⟩

/-- Where a slice that is read holds what. -/
def Holds9 (w : World) (a : Option Addr) (news : List Value) : Prop := ∀ j u, news[j]? = some u → ∃ ad : Addr, a = some ad ∧ w.cell? (ad.add j) = some u

/-- The element type of a slice type, as append asks for it. -/
structure Elem (P : Program) (t e : TypeId) (z : Value) (size bytes : Nat) : Prop where
  ht : P.underlying t = some (.slice e)
  hi : (P.info? e).map (fun i => (i.zero, i.size, i.bytes)) = some (some z, size, bytes)
  hzs : z.cells.size = size
  hsz : 0 < size

theorem run_append_mine {P : Program} {t ty e : TypeId} {z : Value} {size bytes : Nat} (E : Elem P t e z size bytes) {w : World} {v : Value} {n : Nat} {xs : List Value} (hown : w.ownsRow 0 e size v n xs)
    (a : Option Addr) (m c : Nat) (news : List Value) (hl : news.length = m * size) (hnews : Holds9 w a news) (h1 : ∀ u ∈ news, u.oneCell' = true)
    (h63 : n + m ≤ maxLen) (hbytes : (n + m) * bytes ≤ 140737488355328) :
    ∃ a' c' w', (Builtin.append_ #[t, t] ty #[v, .slice a m c]).run P w = .ok (.slice a' (n + m) c') w' ∧ w'.ownsRow 0 e size (.slice a' (n + m) c') (n + m) (xs ++ news) ∧
      Kept (fun b => v.ownBlock = some b) w w' ∧ ((Value.slice a' (n + m) c').ownBlock = v.ownBlock ∨ (Value.slice a' (n + m) c').ownBlock = some w.heap.size) := by
  obtain ⟨i, hi, hz0, hz1, hz2⟩ := info_parts E.hi
  cases a with
  | some ad =>
    obtain ⟨v', w', hr, h2, h3, _, h5⟩ := run_append_own_at (P := P) w 0 t ty e i z size bytes E.ht hi hz0 hz1 hz2 E.hzs E.hsz v n xs hown ad m c news hl
      (fun j u hj => by obtain ⟨ad', e', h⟩ := hnews j u hj; cases e'; exact h) h1 h63 hbytes (Nat.zero_le _)
    obtain ⟨a', c', rfl, _⟩ := own_form h2
    exact ⟨a', c', w', hr, h2, Kept.of_grown h3, h5⟩
  | none =>
    have hn0 : news = [] := by
      cases news with
      | nil => rfl
      | cons u us => obtain ⟨ad, e', _⟩ := hnews 0 u rfl; cases e'
    subst hn0
    have hm : m = 0 := by
      have := E.hsz
      rw [List.length_nil] at hl
      rcases Nat.mul_eq_zero.1 hl.symm with h | h <;> omega
    subst hm
    obtain ⟨a', c', rfl, _, hz, hnc⟩ := own_form hown
    refine ⟨a', c', w, ?_, by simpa using hown, .refl _ _, .inl rfl⟩
    have hund := run_underlying E.ht
    have hsize : ∀ w, (sizeOf e).run P w = .ok size w := fun w => by simp [sizeOf, typeInfo, hi, hz1]
    have hcond : n ≤ c' := hnc
    simp [Builtin.append_, hund, hsize, Result.andThen, Builtin.lenOf, Builtin.firstCells, hcond]
    cases a' with
    | none => simp [Sem.run]
    | some ad => simp [storeCells, Sem.run, Result.andThen]

section
variable {P : Program} {t e : TypeId} {z : Value} {size bytes : Nat} {w : World} {v : Value} {n : Nat} {xs : List Value}

theorem wp_append_mine {o : Oper} {a : Act} {K : Act → World → Prop} {Q : Exit → Act → World → Prop} (s x : Operand) (E : Elem P t e z size bytes)
    (ho : o.op = .call { callee := .builtin .append, args := #[s, x], argTypes := #[t, t] }) (hs : a.eval s = v) (hown : w.ownsRow 0 e size v n xs)
    (ad : Option Addr) (m c : Nat) (news : List Value) (hx : a.eval x = .slice ad m c) (hl : news.length = m * size) (hnews : Holds9 w ad news) (h1 : ∀ u ∈ news, u.oneCell' = true)
    (h63 : n + m ≤ maxLen) (hbytes : (n + m) * bytes ≤ 140737488355328)
    (h : ∀ a' c' w', w'.ownsRow 0 e size (.slice a' (n + m) c') (n + m) (xs ++ news) → Kept (fun b => v.ownBlock = some b) w w' → ((Value.slice a' (n + m) c').ownBlock = v.ownBlock ∨ (Value.slice a' (n + m) c').ownBlock = some w.heap.size) →
      K (a.put o.dst (.slice a' (n + m) c')) w') : o.wp P a w K Q := by
  obtain ⟨a', c', w', hr, h2, h3, h4⟩ := run_append_mine (P := P) (ty := o.type) E hown ad m c news hl hnews h1 h63 hbytes
  unfold Oper.wp execOp
  simp only [ho, resolve, invoke, builtin, Sem.run_bind, Sem.run_pure, Result.andThen_ok, List.map_toArray, List.map_cons, List.map_nil, hs, hx, hr]
  exact h a' c' w' h2 h3 h4
theorem wpList_append_mine {ops : Array Oper} {rest : List Oper} {o : Oper} {a : Act} {Q : Exit → Act → World → Prop} (hgd : o.guard = none) (s x : Operand) (E : Elem P t e z size bytes)
    (ho : o.op = .call { callee := .builtin .append, args := #[s, x], argTypes := #[t, t] }) (hs : a.eval s = v) (hown : w.ownsRow 0 e size v n xs)
    (ad : Option Addr) (m c : Nat) (news : List Value) (hx : a.eval x = .slice ad m c) (hl : news.length = m * size) (hnews : Holds9 w ad news) (h1 : ∀ u ∈ news, u.oneCell' = true)
    (h63 : n + m ≤ maxLen) (hbytes : (n + m) * bytes ≤ 140737488355328)
    (h : ∀ a' c' w', w'.ownsRow 0 e size (.slice a' (n + m) c') (n + m) (xs ++ news) → Kept (fun b => v.ownBlock = some b) w w' → ((Value.slice a' (n + m) c').ownBlock = v.ownBlock ∨ (Value.slice a' (n + m) c').ownBlock = some w.heap.size) →
      wpList P ops Q rest (a.put o.dst (.slice a' (n + m) c')) w') : wpList P ops Q (o :: rest) a w :=
  wpList_plain hgd fun _ hK => wp_append_mine s x E ho hs hown ad m c news hx hl hnews h1 h63 hbytes fun a' c' w' h2 h3 h4 => hK _ _ (h a' c' w' h2 h3 h4)
theorem step_append_mine {ops : Array Oper} {o : Oper} {a : Act} {K : Act → World → Prop} {Q : Exit → Act → World → Prop} {B : Prop} (hgd : o.guard = none) (s x : Operand) (E : Elem P t e z size bytes)
    (ho : o.op = .call { callee := .builtin .append, args := #[s, x], argTypes := #[t, t] }) (hs : a.eval s = v) (hown : w.ownsRow 0 e size v n xs)
    (ad : Option Addr) (m c : Nat) (news : List Value) (hx : a.eval x = .slice ad m c) (hl : news.length = m * size) (hnews : Holds9 w ad news) (h1 : ∀ u ∈ news, u.oneCell' = true)
    (h63 : n + m ≤ maxLen) (hbytes : (n + m) * bytes ≤ 140737488355328)
    (h : ∀ a' c' w', w'.ownsRow 0 e size (.slice a' (n + m) c') (n + m) (xs ++ news) → Kept (fun b => v.ownBlock = some b) w w' → ((Value.slice a' (n + m) c').ownBlock = v.ownBlock ∨ (Value.slice a' (n + m) c').ownBlock = some w.heap.size) →
      K (a.put o.dst (.slice a' (n + m) c')) w') : if Region.wanted o (yielded ops a.tmps) = true then Oper.wp P o a w K Q else B := by
  have hw : Region.wanted o (yielded ops a.tmps) = true := by simp [Region.wanted, hgd]
  rw [if_pos hw]
  exact wp_append_mine s x E ho hs hown ad m c news hx hl hnews h1 h63 hbytes h
theorem wpListW_append_mine {ro : Option Nat} {N : Nat} {ops : Array Oper} {rest : List Oper} {o : Oper} {a : Act} {Q : Exit → Act → World → Prop} (hgd : o.guard = none) (s x : Operand) (E : Elem P t e z size bytes)
    (ho : o.op = .call { callee := .builtin .append, args := #[s, x], argTypes := #[t, t] }) (hs : a.eval s = v) (hown : w.ownsRow 0 e size v n xs)
    (ad : Option Addr) (m c : Nat) (news : List Value) (hx : a.eval x = .slice ad m c) (hl : news.length = m * size) (hnews : Holds9 w ad news) (h1 : ∀ u ∈ news, u.oneCell' = true)
    (h63 : n + m ≤ maxLen) (hbytes : (n + m) * bytes ≤ 140737488355328)
    (h : ∀ a' c' w', w'.ownsRow 0 e size (.slice a' (n + m) c') (n + m) (xs ++ news) → Kept (fun b => v.ownBlock = some b) w w' → ((Value.slice a' (n + m) c').ownBlock = v.ownBlock ∨ (Value.slice a' (n + m) c').ownBlock = some w.heap.size) →
      wpListIn (WR ro) N P ops Q rest (a.put o.dst (.slice a' (n + m) c')) w') : wpListIn (WR ro) N P ops Q (o :: rest) a w := by
  refine wpListIn_plain hgd fun K hK => ?_
  obtain ⟨a', c', w', hr, h2, h3, h4⟩ := run_append_mine (P := P) (ty := o.type) E hown ad m c news hl hnews h1 h63 hbytes
  refine ⟨fun _ _ => trivial, ?_⟩
  rw [Oper.semAt_eq _ _ _ (fun cc e => by rw [ho] at e; cases e)]
  unfold execOp
  simp only [ho, resolve, invoke, builtin, Sem.run_bind, Sem.run_pure, Result.andThen_ok, List.map_toArray, List.map_cons, List.map_nil, hs, hx, hr]
  exact hK _ _ (h a' c' w' h2 h3 h4)
end

/-- The cells of a block that is known whole, as a source. -/
theorem holds_block {w : World} {b : Nat} {c : Array Value} {t : TypeId} {fr : Nat × Nat} (h : w.heap[b]? = some (.cells c t fr)) : Holds9 w (some ⟨b, 0, none⟩) c.toList := by
  intro j u hj
  refine ⟨_, rfl, ?_⟩
  rw [add_zero_off]
  simpa [World.cell?, h] using hj
end Go.Proofs.YtdkcnigghcbnpaaGreat

/- Rows of one's own: new ones, their cells as a source; a small number does not wrap. No program is named here. -/
namespace Go.Proofs.YtdkcnigghcbnpaaGreat
set_option linter.unusedVariables false
set_option linter.unusedSimpArgs false
open Go.RowKit

theorem iwrap_small {x : Int} (h0 : -9223372036854775808 ≤ x) (h1 : x ≤ 9223372036854775807) : IntKind.i64.wrap x = x := by
  have e1 : (2 : Int) ^ IntKind.i64.bits = 18446744073709551616 := by decide
  have e2 : (2 : Int) ^ (IntKind.i64.bits - 1) = 9223372036854775808 := by decide
  have e3 : IntKind.i64.signed = true := rfl
  simp only [IntKind.wrap, e1, e2, e3, Bool.true_and, decide_eq_true_eq]
  split <;> omega
theorem own_empty (w : World) (e size : Nat) : (w.alloc (.cells #[] e)).ownsRow 0 e size (.slice (some ⟨w.heap.size, 0, none⟩) 0 0) 0 [] :=
  ⟨by simp, .inr ⟨w.heap.size, 0, #[], rfl, Nat.zero_le _, heap_alloc_new w _, Nat.le_refl _, by unfold maxLen; omega, by simp, by simp⟩⟩
theorem own_one (w : World) (v : Value) (e : TypeId) : (w.alloc (.cells #[v] e)).ownsRow 0 e 1 (.slice (some ⟨w.heap.size, 0, none⟩) 1 1) 1 [v] :=
  ⟨by simp, .inr ⟨w.heap.size, 1, #[v], rfl, Nat.zero_le _, heap_alloc_new w _, Nat.le_refl _, by unfold maxLen; omega, by simp, by simp⟩⟩
theorem holds_nil {w : World} {a : Option Addr} {ys : List Value} (h : ys.length = 0) : Holds9 w a ys := by
  intro j u hj
  have := (List.getElem?_eq_some_iff.1 hj).1
  omega
theorem holds_part {w : World} {base e size n g c : Nat} {xs : List Value} (h : w.ownsRow base e size (.slice (some ⟨g, 0, none⟩) n c) n xs) (o : Nat) (ys : List Value) (hy : ∀ j u, ys[j]? = some u → xs[o + j]? = some u) : Holds9 w (some ⟨g, o, none⟩) ys := by
  intro j u hj
  refine ⟨_, rfl, ?_⟩
  rw [add_off]
  exact own_cell h (hy j u hj)
theorem own_holds {w : World} {base e size n c : Nat} {a : Option Addr} {xs : List Value} (h : w.ownsRow base e size (.slice a n c) n xs) : Holds9 w a xs := by
  rcases h.2 with ⟨_, hx⟩ | ⟨g, cap, cur, hv, _⟩
  · exact holds_nil (by rw [h.1, hx]; simp)
  · injection hv with h1 h2 h3
    subst h1
    subst h3
    intro j u hj
    exact ⟨_, rfl, by rw [add_zero_off]; exact own_cell h hj⟩
theorem rowAt_one {W : World} {b n m : Nat} (h : RowAt W b n) (k : RowAt W b m) : n = m := by
  obtain ⟨c, t, h1, h2⟩ := h
  obtain ⟨c', t', h3, h4⟩ := k
  rw [h1] at h3
  cases h3
  exact h2.symm.trans h4
end Go.Proofs.YtdkcnigghcbnpaaGreat
