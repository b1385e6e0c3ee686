/- A small map, out of four numbers. -/
import Derived.Test.YtalahbmahpgkeaaTblD
import Derived.IntWalk
namespace Go.Proofs.Ytalahbmahpgkeaa
set_option linter.unusedVariables false
set_option linter.unusedSimpArgs false
open Go.RowKit Go.MapKept

/-- A small map. -/
def smallM (kind key value most : Int) : TM :=
  ⟨⟨#[109]⟩, 1 + (bits .and .i64 kind 255).tmod 3, if (bits .and .i64 kind 255).tmod 3 = 0 then 4 else 1 + bits .and .i64 key 3, 1 + bits .and .i64 value 7, 1 + (bits .and .i64 most 255).tmod 12⟩
theorem small_nums (kind key value most : Int) : ∃ K Y V X : Nat, K < 3 ∧ Y < 4 ∧ V < 8 ∧ X < 12 ∧ (bits .and .i64 kind 255).tmod 3 = (K : Int) ∧ bits .and .i64 key 3 = (Y : Int) ∧ bits .and .i64 value 7 = (V : Int) ∧ (bits .and .i64 most 255).tmod 12 = (X : Int) := by
  obtain ⟨A, hA, hA'⟩ := mask_nat kind 8 (by omega) 255 (by decide)
  obtain ⟨Y, hY, hY'⟩ := mask_nat key 2 (by omega) 3 (by decide)
  obtain ⟨V, hV, hV'⟩ := mask_nat value 3 (by omega) 7 (by decide)
  obtain ⟨X, hX, hX'⟩ := mask_nat most 8 (by omega) 255 (by decide)
  refine ⟨A % 3, Y, V, X % 12, Nat.mod_lt _ (by omega), by simpa using hY', by simpa using hV', Nat.mod_lt _ (by omega), ?_, hY, hV, ?_⟩
  · rw [hA]
    exact tmod_nat A 3
  · rw [hX]
    exact tmod_nat X 12
theorem small_right (kind key value most : Int) : (smallM kind key value most).right = true ∧ (smallM kind key value most).ks ≤ 4 ∧ (smallM kind key value most).vs ≤ 8 ∧ (smallM kind key value most).mx ≤ 12 := by
  obtain ⟨K, Y, V, X, h1, h2, h3, h4, e1, e2, e3, e4⟩ := small_nums kind key value most
  unfold smallM
  rw [e1, e2, e3, e4]
  refine ⟨?_, ?_, by show (1 : Int) + V ≤ 8; omega, by show (1 : Int) + X ≤ 12; omega⟩
  · show rightB ⟨#[109]⟩ (1 + (K : Int)) (if (K : Int) = 0 then 4 else 1 + (Y : Int)) (1 + (V : Int)) (1 + (X : Int)) = true
    refine (rightB_iff _ _ _ _ _).2 ⟨by decide, by omega, by omega, ?_, ?_, ?_, by omega, by omega, by omega, by omega⟩
    · split <;> omega
    · split <;> omega
    · intro e
      rw [if_pos (by omega)]
  · show (if (K : Int) = 0 then (4 : Int) else 1 + Y) ≤ 4
    split <;> omega
set_option maxRecDepth 100000 in
set_option maxHeartbeats 1000000 in
theorem small_any (kind key value most : Int) (W : World) : Calls Try.prog 19 #[.int .i64 kind, .int .i64 key, .int .i64 value, .int .i64 most] W fun e w' => e = .returned (smallM kind key value most).v ∧ Kept (fun _ => False) W w' := by
  obtain ⟨K, Y, V, X, h1, h2, h3, h4, e1, e2, e3, e4⟩ := small_nums kind key value most
  unfold smallM TM.v
  simp only []
  rw [e1, e2, e3, e4]
  have w1 : wrap64 (1 + (K : Int)) = 1 + (K : Int) := IntWalk.wrap64_in _ (by omega)
  have w2 : wrap64 (1 + (Y : Int)) = 1 + (Y : Int) := IntWalk.wrap64_in _ (by omega)
  have w3 : wrap64 (1 + (V : Int)) = 1 + (V : Int) := IntWalk.wrap64_in _ (by omega)
  have w4 : wrap64 (1 + (X : Int)) = 1 + (X : Int) := IntWalk.wrap64_in _ (by omega)
  by_cases hk : K = 0
  · subst hk
    have e1 : (bits .and .i64 kind 255).tmod 3 = 0 := e1
    clear w1
    rw [if_pos (show ((0 : Nat) : Int) = 0 from rfl)]
    show Calls Try.prog 19 _ W fun e w' => e = .returned (.agg #[.string ⟨#[109]⟩, .int .i64 1, .int .i64 4, .int .i64 (1 + (V : Int)), .int .i64 (1 + (X : Int))]) ∧ Kept (fun _ => False) W w'
    go_enter Try.func19, Try.ntmps19
    go_wp2_with fail
    refine bodyPost_ret (results_cell_row (ty := 23) (p := 8) rfl _ _ W.heap.size 23 #[.string ⟨#[109]⟩, .int .i64 1, .int .i64 4, .int .i64 (1 + (V : Int)), .int .i64 (1 + (X : Int))] (0, 0) _ rfl ?_ Try.underlying23 rfl (by kernel_rfl)) rfl ⟨rfl, ((Kept.refl _ W).alloc _).alloc _⟩
    exact heap_alloc2_old W _ _
  · rw [if_neg (by omega)]
    obtain ⟨D, hD⟩ : ∃ D, D = 1 + (K : Int) := ⟨_, rfl⟩
    have hk1 : (D == 1) = false := by
      rw [beq_eq_false_iff_ne]
      omega
    have w1' : wrap64 (1 + (bits .and .i64 kind 255).tmod 3) = D := by rw [e1, w1, hD]
    rw [← hD]
    clear hk hD h1 e1 w1
    go_enter Try.func19, Try.ntmps19
    go_wp2_with fail
    refine bodyPost_ret (results_cell_row (ty := 23) (p := 8) rfl _ _ W.heap.size 23 #[.string ⟨#[109]⟩, .int .i64 D, .int .i64 (1 + (Y : Int)), .int .i64 (1 + (V : Int)), .int .i64 (1 + (X : Int))] (0, 0) _ rfl ?_ Try.underlying23 rfl (by kernel_rfl)) rfl ⟨rfl, ((Kept.refl _ W).alloc _).alloc _⟩
    exact heap_alloc2_old W _ _
end Go.Proofs.Ytalahbmahpgkeaa
