/- append onto a row of one's own, from whatever source: the new value written out. No program is named here. -/
import Derived.Test.YtalahbmahpgkeaaWide
import Derived.Maps.AppendAt
namespace Go.Proofs.Ytalahbmahpgkeaa
set_option linter.unusedVariables false
set_option linter.unusedSimpArgs false
open Go.RowKit

/-- The value of a row, written out. -/
theorem own_form {w : World} {base e size n : Nat} {v : Value} {xs : List Value} (h : w.ownsRow base e size v n xs) : ∃ a c, v = .slice a n c ∧ (0 < n → ∃ g, a = some ⟨g, 0, none⟩) ∧ (∀ ad, a = some ad → ad = ⟨ad.block, 0, none⟩) ∧ n ≤ c := by
  rcases h.2 with ⟨rfl, rfl⟩ | ⟨g, cap, cur, rfl, _, _, hc, _⟩
  · exact ⟨none, 0, rfl, (fun h => by omega), (fun _ e => by cases e), Nat.le_refl _⟩
  · exact ⟨_, cap, rfl, fun _ => ⟨g, rfl⟩, fun ad e => by cases e; rfl, hc⟩
theorem ownsRow_kept {w w' : World} {S : Nat → Prop} {base e size n : Nat} {v : Value} {xs : List Value} (h : w.ownsRow base e size v n xs) (k : Kept S w w') (hn : ∀ b, v.ownBlock = some b → ¬ S b) : w'.ownsRow base e size v n xs := by
  refine ⟨h.1, ?_⟩
  rcases h.2 with h1 | ⟨g, cap, cur, rfl, hb, hg, rest⟩
  · exact .inl h1
  · exact .inr ⟨g, cap, cur, rfl, hb, (k.block g (Array.getElem?_eq_some_iff.1 hg).1 (hn g rfl)).trans hg, rest⟩
theorem ownsRow_base {w : World} {base e size n : Nat} {v : Value} {xs : List Value} (h : w.ownsRow base e size v n xs) : w.ownsRow 0 e size v n xs := by
  refine ⟨h.1, ?_⟩
  rcases h.2 with h1 | ⟨g, cap, cur, rfl, hb, rest⟩
  · exact .inl h1
  · exact .inr ⟨g, cap, cur, rfl, by omega, rest⟩
theorem add_zero_off (g j : Nat) : (⟨g, 0, none⟩ : Addr).add j = ⟨g, j, none⟩ := by unfold Addr.add; split <;> simp_all
theorem add_off (g o j : Nat) : (⟨g, o, none⟩ : Addr).add j = ⟨g, o + j, none⟩ := by unfold Addr.add; split <;> simp_all
theorem own_cell {w : World} {base e size n g c : Nat} {xs : List Value} (h : w.ownsRow base e size (.slice (some ⟨g, 0, none⟩) n c) n xs) {j : Nat} {u : Value} (hj : xs[j]? = some u) : w.cell? ⟨g, j, none⟩ = some u := by
  have := h.cells (g := g) rfl j u hj
  rwa [add_zero_off] at this
theorem own_row {w : World} {base e size n g c : Nat} {xs : List Value} (h : w.ownsRow base e size (.slice (some ⟨g, 0, none⟩) n c) n xs) : RowAt w g (c * size) := by
  rcases h.2 with ⟨h1, _⟩ | ⟨g', cap, cur, hv, hb, hg, hn, hm, hs, _⟩
  · cases h1
  · cases hv
    exact ⟨cur, e, hg, hs⟩

/-- Where a slice that is read holds what. -/
def Holds9 (w : World) (a : Option Addr) (news : List Value) : Prop := ∀ j u, news[j]? = some u → ∃ ad : Addr, a = some ad ∧ w.cell? (ad.add j) = some u

/-- The element type of a slice type, as append asks for it. -/
structure Elem (P : Program) (t e : TypeId) (z : Value) (size bytes : Nat) : Prop where
  ht : P.underlying t = some (.slice e)
  hi : (P.info? e).map (fun i => (i.zero, i.size, i.bytes)) = some (some z, size, bytes)
  hzs : z.cells.size = size
  hsz : 0 < size

theorem run_append_mine {P : Program} {t ty e : TypeId} {z : Value} {size bytes : Nat} (E : Elem P t e z size bytes) {w : World} {v : Value} {n : Nat} {xs : List Value} (hown : w.ownsRow 0 e size v n xs)
    (a : Option Addr) (m c : Nat) (news : List Value) (hl : news.length = m * size) (hnews : Holds9 w a news) (h1 : ∀ u ∈ news, u.oneCell' = true)
    (h63 : n + m ≤ maxLen) (hbytes : (n + m) * bytes ≤ 140737488355328) :
    ∃ a' c' w', (Builtin.append_ #[t, t] ty #[v, .slice a m c]).run P w = .ok (.slice a' (n + m) c') w' ∧ w'.ownsRow 0 e size (.slice a' (n + m) c') (n + m) (xs ++ news) ∧
      Kept (fun b => v.ownBlock = some b) w w' ∧ ((Value.slice a' (n + m) c').ownBlock = v.ownBlock ∨ (Value.slice a' (n + m) c').ownBlock = some w.heap.size) := by
  obtain ⟨i, hi, hz0, hz1, hz2⟩ := info_parts E.hi
  cases a with
  | some ad =>
    obtain ⟨v', w', hr, h2, h3, _, h5⟩ := run_append_own_at (P := P) w 0 t ty e i z size bytes E.ht hi hz0 hz1 hz2 E.hzs E.hsz v n xs hown ad m c news hl
      (fun j u hj => by obtain ⟨ad', e', h⟩ := hnews j u hj; cases e'; exact h) h1 h63 hbytes (Nat.zero_le _)
    obtain ⟨a', c', rfl, _⟩ := own_form h2
    exact ⟨a', c', w', hr, h2, Kept.of_grown h3, h5⟩
  | none =>
    have hn0 : news = [] := by
      cases news with
      | nil => rfl
      | cons u us => obtain ⟨ad, e', _⟩ := hnews 0 u rfl; cases e'
    subst hn0
    have hm : m = 0 := by
      have := E.hsz
      rw [List.length_nil] at hl
      rcases Nat.mul_eq_zero.1 hl.symm with h | h <;> omega
    subst hm
    obtain ⟨a', c', rfl, _, hz, hnc⟩ := own_form hown
    refine ⟨a', c', w, ?_, by simpa using hown, .refl _ _, .inl rfl⟩
    have hund := run_underlying E.ht
    have hsize : ∀ w, (sizeOf e).run P w = .ok size w := fun w => by simp [sizeOf, typeInfo, hi, hz1]
    have hcond : n ≤ c' := hnc
    simp [Builtin.append_, hund, hsize, Result.andThen, Builtin.lenOf, Builtin.firstCells, hcond]
    cases a' with
    | none => simp [Sem.run]
    | some ad => simp [storeCells, Sem.run, Result.andThen]

section
variable {P : Program} {t e : TypeId} {z : Value} {size bytes : Nat} {w : World} {v : Value} {n : Nat} {xs : List Value}

theorem wp_append_mine {o : Oper} {a : Act} {K : Act → World → Prop} {Q : Exit → Act → World → Prop} (s x : Operand) (E : Elem P t e z size bytes)
    (ho : o.op = .call { callee := .builtin .append, args := #[s, x], argTypes := #[t, t] }) (hs : a.eval s = v) (hown : w.ownsRow 0 e size v n xs)
    (ad : Option Addr) (m c : Nat) (news : List Value) (hx : a.eval x = .slice ad m c) (hl : news.length = m * size) (hnews : Holds9 w ad news) (h1 : ∀ u ∈ news, u.oneCell' = true)
    (h63 : n + m ≤ maxLen) (hbytes : (n + m) * bytes ≤ 140737488355328)
    (h : ∀ a' c' w', w'.ownsRow 0 e size (.slice a' (n + m) c') (n + m) (xs ++ news) → Kept (fun b => v.ownBlock = some b) w w' → ((Value.slice a' (n + m) c').ownBlock = v.ownBlock ∨ (Value.slice a' (n + m) c').ownBlock = some w.heap.size) →
      K (a.put o.dst (.slice a' (n + m) c')) w') : o.wp P a w K Q := by
  obtain ⟨a', c', w', hr, h2, h3, h4⟩ := run_append_mine (P := P) (ty := o.type) E hown ad m c news hl hnews h1 h63 hbytes
  unfold Oper.wp execOp
  simp only [ho, resolve, invoke, builtin, Sem.run_bind, Sem.run_pure, Result.andThen_ok, List.map_toArray, List.map_cons, List.map_nil, hs, hx, hr]
  exact h a' c' w' h2 h3 h4
theorem wpList_append_mine {ops : Array Oper} {rest : List Oper} {o : Oper} {a : Act} {Q : Exit → Act → World → Prop} (hgd : o.guard = none) (s x : Operand) (E : Elem P t e z size bytes)
    (ho : o.op = .call { callee := .builtin .append, args := #[s, x], argTypes := #[t, t] }) (hs : a.eval s = v) (hown : w.ownsRow 0 e size v n xs)
    (ad : Option Addr) (m c : Nat) (news : List Value) (hx : a.eval x = .slice ad m c) (hl : news.length = m * size) (hnews : Holds9 w ad news) (h1 : ∀ u ∈ news, u.oneCell' = true)
    (h63 : n + m ≤ maxLen) (hbytes : (n + m) * bytes ≤ 140737488355328)
    (h : ∀ a' c' w', w'.ownsRow 0 e size (.slice a' (n + m) c') (n + m) (xs ++ news) → Kept (fun b => v.ownBlock = some b) w w' → ((Value.slice a' (n + m) c').ownBlock = v.ownBlock ∨ (Value.slice a' (n + m) c').ownBlock = some w.heap.size) →
      wpList P ops Q rest (a.put o.dst (.slice a' (n + m) c')) w') : wpList P ops Q (o :: rest) a w :=
  wpList_plain hgd fun _ hK => wp_append_mine s x E ho hs hown ad m c news hx hl hnews h1 h63 hbytes fun a' c' w' h2 h3 h4 => hK _ _ (h a' c' w' h2 h3 h4)
theorem step_append_mine {ops : Array Oper} {o : Oper} {a : Act} {K : Act → World → Prop} {Q : Exit → Act → World → Prop} {B : Prop} (hgd : o.guard = none) (s x : Operand) (E : Elem P t e z size bytes)
    (ho : o.op = .call { callee := .builtin .append, args := #[s, x], argTypes := #[t, t] }) (hs : a.eval s = v) (hown : w.ownsRow 0 e size v n xs)
    (ad : Option Addr) (m c : Nat) (news : List Value) (hx : a.eval x = .slice ad m c) (hl : news.length = m * size) (hnews : Holds9 w ad news) (h1 : ∀ u ∈ news, u.oneCell' = true)
    (h63 : n + m ≤ maxLen) (hbytes : (n + m) * bytes ≤ 140737488355328)
    (h : ∀ a' c' w', w'.ownsRow 0 e size (.slice a' (n + m) c') (n + m) (xs ++ news) → Kept (fun b => v.ownBlock = some b) w w' → ((Value.slice a' (n + m) c').ownBlock = v.ownBlock ∨ (Value.slice a' (n + m) c').ownBlock = some w.heap.size) →
      K (a.put o.dst (.slice a' (n + m) c')) w') : if Region.wanted o (yielded ops a.tmps) = true then Oper.wp P o a w K Q else B := by
  have hw : Region.wanted o (yielded ops a.tmps) = true := by simp [Region.wanted, hgd]
  rw [if_pos hw]
  exact wp_append_mine s x E ho hs hown ad m c news hx hl hnews h1 h63 hbytes h
theorem wpListW_append_mine {ro : Option Nat} {N : Nat} {ops : Array Oper} {rest : List Oper} {o : Oper} {a : Act} {Q : Exit → Act → World → Prop} (hgd : o.guard = none) (s x : Operand) (E : Elem P t e z size bytes)
    (ho : o.op = .call { callee := .builtin .append, args := #[s, x], argTypes := #[t, t] }) (hs : a.eval s = v) (hown : w.ownsRow 0 e size v n xs)
    (ad : Option Addr) (m c : Nat) (news : List Value) (hx : a.eval x = .slice ad m c) (hl : news.length = m * size) (hnews : Holds9 w ad news) (h1 : ∀ u ∈ news, u.oneCell' = true)
    (h63 : n + m ≤ maxLen) (hbytes : (n + m) * bytes ≤ 140737488355328)
    (h : ∀ a' c' w', w'.ownsRow 0 e size (.slice a' (n + m) c') (n + m) (xs ++ news) → Kept (fun b => v.ownBlock = some b) w w' → ((Value.slice a' (n + m) c').ownBlock = v.ownBlock ∨ (Value.slice a' (n + m) c').ownBlock = some w.heap.size) →
      wpListIn (WR ro) N P ops Q rest (a.put o.dst (.slice a' (n + m) c')) w') : wpListIn (WR ro) N P ops Q (o :: rest) a w := by
  refine wpListIn_plain hgd fun K hK => ?_
  obtain ⟨a', c', w', hr, h2, h3, h4⟩ := run_append_mine (P := P) (ty := o.type) E hown ad m c news hl hnews h1 h63 hbytes
  refine ⟨fun _ _ => trivial, ?_⟩
  rw [Oper.semAt_eq _ _ _ (fun cc e => by rw [ho] at e; cases e)]
  unfold execOp
  simp only [ho, resolve, invoke, builtin, Sem.run_bind, Sem.run_pure, Result.andThen_ok, List.map_toArray, List.map_cons, List.map_nil, hs, hx, hr]
  exact hK _ _ (h a' c' w' h2 h3 h4)
end

/-- The cells of a block that is known whole, as a source. -/
theorem holds_block {w : World} {b : Nat} {c : Array Value} {t : TypeId} {fr : Nat × Nat} (h : w.heap[b]? = some (.cells c t fr)) : Holds9 w (some ⟨b, 0, none⟩) c.toList := by
  intro j u hj
  refine ⟨_, rfl, ?_⟩
  rw [add_zero_off]
  simpa [World.cell?, h] using hj
end Go.Proofs.Ytalahbmahpgkeaa
