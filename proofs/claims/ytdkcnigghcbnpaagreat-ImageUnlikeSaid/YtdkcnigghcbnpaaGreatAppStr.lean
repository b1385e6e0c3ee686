/- append of a string's bytes onto a row of one's own: the new value written out. No program is named here. -/
import Derived.Test.YtdkcnigghcbnpaaGreatGenC
import Derived.Lib.AppendStr
namespace Go.Proofs.YtdkcnigghcbnpaaGreat
set_option linter.unusedVariables false
set_option linter.unusedSimpArgs false
open Go.RowKit

theorem run_append_mine_str {P : Program} {t u ty e : TypeId} (E : Elem P t e (.int .u8 0) 1 1) (hu : P.underlying u = some .string) {w : World} {v : Value} {n : Nat} {xs : List Value} (hown : w.ownsRow 0 e 1 v n xs) (s : ByteArray)
    (h63 : n + s.size ≤ maxLen) (hbytes : n + s.size ≤ 140737488355328) :
    ∃ a' c' w', (Builtin.append_ #[t, u] ty #[v, .string s]).run P w = .ok (.slice a' (n + s.size) c') w' ∧ w'.ownsRow 0 e 1 (.slice a' (n + s.size) c') (n + s.size) (xs ++ Lib.strCells s) ∧
      Kept (fun b => v.ownBlock = some b) w w' ∧ ((Value.slice a' (n + s.size) c').ownBlock = v.ownBlock ∨ (Value.slice a' (n + s.size) c').ownBlock = some w.heap.size) := by
  obtain ⟨i, hi, hz0, hz1, hz2⟩ := info_parts E.hi
  obtain ⟨v', w', hr, h2, h3, h4⟩ := Lib.run_append_own_string (P := P) w 0 t u ty e i E.ht hu hi hz0 hz1 hz2 v n xs hown s h63 hbytes (Nat.zero_le _)
  have hown' : v'.ownBlock = v.ownBlock ∨ v'.ownBlock = some w.heap.size := by
    have hxl : xs.length = n := by simpa using hown.1
    have hm63 : n + s.size ≤ 9223372036854775807 := by simp only [maxLen] at h63; omega
    rcases hown.2 with ⟨rfl, rfl⟩ | ⟨g, cap, cur, rfl, hbg, hg, hnc, hcm, hcs, htake⟩
    · by_cases hs : s.size = 0
      · rw [h4.2 ⟨rfl, hs⟩]
        exact .inl rfl
      · have hr2 := Go.run_append_nil_string (P := P) w t u ty e i (.int .u8 0) E.ht hu hi hz0 s (by omega) (by omega) (by rw [hz2]; omega)
        rw [hr2] at hr
        injection hr with e1 e2
        rw [← e1]
        exact .inr rfl
    · by_cases hroom : n + s.size ≤ cap
      · have hcs' : cur.size = cap := by simpa using hcs
        have hr2 := Lib.run_append_room_string (P := P) w t u ty e i E.ht hu hi hz1 g n cap cur hg s hroom (by omega)
        rw [hr2] at hr
        injection hr with e1 e2
        rw [← e1]
        exact .inl rfl
      · have hr2 := Lib.run_append_grow_string (P := P) w t u ty e i (.int .u8 0) E.ht hu hi hz0 ⟨g, 0, none⟩ n cap xs (by rw [hz1]; simpa using hxl) (hown.cells (g := g) rfl) s (by omega) (by omega) (by rw [hz2]; exact growslice_fits (by omega) (by omega))
        rw [hr2] at hr
        injection hr with e1 e2
        rw [← e1]
        exact .inr rfl
  obtain ⟨a', c', rfl, _⟩ := own_form h2
  exact ⟨a', c', w', hr, h2, Kept.of_grown h3, hown'⟩
theorem wpListW_append_str {P : Program} {t u e : TypeId} {w : World} {v : Value} {n : Nat} {xs : List Value} {ro : Option Nat} {N : Nat} {ops : Array Oper} {rest : List Oper} {o : Oper} {a : Act} {Q : Exit → Act → World → Prop} (hgd : o.guard = none) (s x : Operand) (E : Elem P t e (.int .u8 0) 1 1) (hu : P.underlying u = some .string)
    (ho : o.op = .call { callee := .builtin .append, args := #[s, x], argTypes := #[t, u] }) (hs : a.eval s = v) (hown : w.ownsRow 0 e 1 v n xs) (k : ByteArray) (hx : a.eval x = .string k)
    (h63 : n + k.size ≤ maxLen) (hbytes : n + k.size ≤ 140737488355328)
    (h : ∀ a' c' w', w'.ownsRow 0 e 1 (.slice a' (n + k.size) c') (n + k.size) (xs ++ Lib.strCells k) → Kept (fun b => v.ownBlock = some b) w w' → ((Value.slice a' (n + k.size) c').ownBlock = v.ownBlock ∨ (Value.slice a' (n + k.size) c').ownBlock = some w.heap.size) →
      wpListIn (WR ro) N P ops Q rest (a.put o.dst (.slice a' (n + k.size) c')) w') : wpListIn (WR ro) N P ops Q (o :: rest) a w := by
  refine wpListIn_plain hgd fun K hK => ?_
  obtain ⟨a', c', w', hr, h2, h3, h4⟩ := run_append_mine_str (P := P) (ty := o.type) E hu hown k h63 hbytes
  refine ⟨fun _ _ => trivial, ?_⟩
  rw [Oper.semAt_eq _ _ _ (fun cc e => by rw [ho] at e; cases e)]
  unfold execOp
  simp only [ho, resolve, invoke, builtin, Sem.run_bind, Sem.run_pure, Result.andThen_ok, List.map_toArray, List.map_cons, List.map_nil, hs, hx, hr]
  exact hK _ _ (h a' c' w' h2 h3 h4)
end Go.Proofs.YtdkcnigghcbnpaaGreat
