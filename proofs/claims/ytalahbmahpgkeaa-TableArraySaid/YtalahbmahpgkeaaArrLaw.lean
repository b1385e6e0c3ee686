/- TableArray: the plain law. -/
import Derived.Test.YtalahbmahpgkeaaTblF
namespace Go.Proofs.Ytalahbmahpgkeaa
set_option linter.unusedVariables false
set_option linter.unusedSimpArgs false
open Go.RowKit Go.MapKept

def arrM (V N : Nat) : TM := ⟨⟨#[109]⟩, 1, 4, V, N⟩
/-- An array's pairs: zeros everywhere, v at x. -/
def arrP (V N : Nat) (x : Nat) (v : ByteArray) : List Pr := (List.range N).map fun i => (numK i, if i = x then v else zeroB V)
theorem numK_size (n : Nat) : (numK n).size = 4 := rfl
theorem ary_new (V N : Nat) (x : Nat) : newP (arrM V N) = arrP V N x (zeroB V) := by
  unfold newP arrM arrP
  rw [if_pos rfl]
  simp
theorem ary_find (V x : Nat) (v : ByteArray) (hx : x < 4294967296) : ∀ l : List Nat, (∀ i ∈ l, i < 4294967296) → lookP (numK x) (l.map fun i => (numK i, if i = x then v else zeroB V)) = if x ∈ l then some v else none
  | [], _ => rfl
  | i :: l, hl => by
    have hi := hl i (.head _)
    have ih := ary_find V x v hx l (fun j hj => hl j (.tail _ hj))
    unfold lookP at ih ⊢
    rw [List.map_cons, List.find?_cons]
    by_cases e : i = x
    · subst e
      simp
    · have hne : numK i ≠ numK x := fun h => e (numK_inj hi hx h)
      simp only [decide_eq_false hne]
      rw [ih]
      simp [List.mem_cons, Ne.symm e]
theorem ary_look (V N x : Nat) (v : ByteArray) (hx : x < 4294967296) (hN : N ≤ 4294967296) : lookP (numK x) (arrP V N x v) = if x < N then some v else none := by
  unfold arrP
  rw [ary_find V x v hx _ (fun i hi => by have := List.mem_range.1 hi; omega)]
  simp
theorem ary_set (V N x : Nat) (v u : ByteArray) (hx : x < 4294967296) (hN : N ≤ 4294967296) : setP (numK x) u (arrP V N x v) = arrP V N x u := by
  unfold setP arrP
  rw [List.map_map]
  refine List.map_congr_left fun i hi => ?_
  have hi := List.mem_range.1 hi
  simp only [Function.comp]
  by_cases e : i = x
  · subst e
    simp
  · have hne : numK i ≠ numK x := fun h => e (numK_inj (by omega) hx h)
    rw [if_neg hne, if_neg e, if_neg e]
theorem ary_out (V N x : Nat) (v : ByteArray) (h : N ≤ x) : arrP V N x v = arrP V N x (zeroB V) := by
  unfold arrP
  refine List.map_congr_left fun i hi => ?_
  have hi := List.mem_range.1 hi
  rw [if_neg (by omega), if_neg (by omega)]
theorem ary_use (V N : Nat) (k : ByteArray) (P : List Pr) : useP (arrM V N) k P = P := by
  unfold useP
  rw [if_neg (by show ¬ (1 : Int) = 3; decide)]
/-- What calls answer, and make. -/
theorem ary_in (V N x : Nat) (v u : ByteArray) (hx : x < N) (hN : N ≤ 4294967296) (hu : u.size = V) :
    codeP (arrM V N) (numK x) u 1 (arrP V N x v) = 4 ∧ updP (arrM V N) (numK x) u 1 (arrP V N x v) = arrP V N x v ∧ codeP (arrM V N) (numK x) u 2 (arrP V N x v) = 0 ∧ updP (arrM V N) (numK x) u 2 (arrP V N x v) = arrP V N x u ∧
    codeP (arrM V N) (numK x) u 0 (arrP V N x v) = 0 ∧ updP (arrM V N) (numK x) u 0 (arrP V N x v) = arrP V N x u := by
  have hl := ary_look V N x v (by omega) hN
  rw [if_pos hx] at hl
  have e : ∀ fl : Int, 0 ≤ fl → fl ≤ 2 → codeP (arrM V N) (numK x) u fl (arrP V N x v) = if fl = 1 then 4 else 0 := fun fl h0 h2 => by
    unfold codeP
    rw [if_neg (by rw [numK_size, hu]; show ¬ ((4 : Int) ≠ 4 ∨ (V : Int) ≠ V ∨ fl < 0 ∨ 2 < fl); omega), hl, if_pos (show (some v).isSome = true from rfl)]
  have e2 : ∀ fl : Int, 0 ≤ fl → fl ≤ 2 → updP (arrM V N) (numK x) u fl (arrP V N x v) = if fl = 1 then arrP V N x v else arrP V N x u := fun fl h0 h2 => by
    unfold updP
    rw [e fl h0 h2, ary_use, ary_set V N x v u (by omega) hN, hl]
    by_cases h : fl = 1
    · rw [if_pos h, if_pos h, if_neg (by decide)]
    · rw [if_neg h, if_neg h, if_pos (show (0 : Int) = 0 from rfl), if_pos (show (some v).isSome = true from rfl)]
  exact ⟨by rw [e 1 (by omega) (by omega)]; rfl, by rw [e2 1 (by omega) (by omega)]; rfl, by rw [e 2 (by omega) (by omega)]; rfl, by rw [e2 2 (by omega) (by omega)]; rfl, by rw [e 0 (by omega) (by omega)]; rfl, by rw [e2 0 (by omega) (by omega)]; rfl⟩
theorem ary_away (V N x : Nat) (v u : ByteArray) (hx : N ≤ x) (hx2 : x < 4294967296) (hu : u.size = V) (fl : Int) (h0 : 0 ≤ fl) (h2 : fl ≤ 2) :
    codeP (arrM V N) (numK x) u fl (arrP V N x v) = 3 ∧ updP (arrM V N) (numK x) u fl (arrP V N x v) = arrP V N x v := by
  have hl := ary_look V N x v hx2 (by omega)
  rw [if_neg (by omega)] at hl
  have e : codeP (arrM V N) (numK x) u fl (arrP V N x v) = 3 := by
    unfold codeP
    rw [if_neg (by rw [numK_size, hu]; show ¬ ((4 : Int) ≠ 4 ∨ (V : Int) ≠ V ∨ fl < 0 ∨ 2 < fl); omega), hl, if_neg (by simp)]
    split
    · rfl
    · unfold addCP
      rw [if_pos (show (arrM V N).kd = 1 from rfl)]
  refine ⟨e, ?_⟩
  unfold updP
  rw [e, if_neg (by decide)]
theorem ary_del (V N : Nat) (x : Nat) (P : List Pr) : delCP (arrM V N) (numK x) P = 6 ∧ delP (arrM V N) (numK x) P = P := by
  unfold delCP delP
  rw [numK_size]
  exact ⟨rfl, rfl⟩
/-- All in one: the codes of three Updates, and what there is behind them. -/
theorem ary_law (V N x : Nat) (u : ByteArray) (hx : x < 4294967296) (hN : N ≤ 4294967296) (hu : u.size = V) :
    ∃ c1 c2 c3 : Int, (∀ P, P = arrP V N x (zeroB V) → codeP (arrM V N) (numK x) u 1 P = c1 ∧ updP (arrM V N) (numK x) u 1 P = P ∧ codeP (arrM V N) (numK x) u 2 P = c2 ∧ updP (arrM V N) (numK x) u 2 P = arrP V N x u) ∧
      codeP (arrM V N) (numK x) u 0 (arrP V N x u) = c3 ∧ updP (arrM V N) (numK x) u 0 (arrP V N x u) = arrP V N x u ∧ (x < N → c1 = 4 ∧ c2 = 0 ∧ c3 = 0) ∧ (N ≤ x → c1 = 3 ∧ c2 = 3 ∧ c3 = 3) := by
  by_cases h : x < N
  · refine ⟨4, 0, 0, ?_, (ary_in V N x u u h hN hu).2.2.2.2.1, (ary_in V N x u u h hN hu).2.2.2.2.2, fun _ => ⟨rfl, rfl, rfl⟩, fun h => by omega⟩
    rintro P rfl
    obtain ⟨a1, a2, a3, a4, -⟩ := ary_in V N x (zeroB V) u h hN hu
    exact ⟨a1, a2, a3, a4⟩
  · have h' : N ≤ x := by omega
    refine ⟨3, 3, 3, ?_, (ary_away V N x u u h' hx hu 0 (by omega) (by omega)).1, (ary_away V N x u u h' hx hu 0 (by omega) (by omega)).2, fun e => by omega, fun _ => ⟨rfl, rfl, rfl⟩⟩
    rintro P rfl
    refine ⟨(ary_away V N x _ u h' hx hu 1 (by omega) (by omega)).1, (ary_away V N x _ u h' hx hu 1 (by omega) (by omega)).2, (ary_away V N x _ u h' hx hu 2 (by omega) (by omega)).1, ?_⟩
    rw [(ary_away V N x _ u h' hx hu 2 (by omega) (by omega)).2, ary_out V N x u h']
theorem ary_at {V N x : Nat} {u : ByteArray} {pre rest : List En} {e : En} (h : kvs (pre ++ e :: rest) = arrP V N x u) : pre.length < N ∧ e.key = numK pre.length ∧ e.data = if pre.length = x then u else zeroB V := by
  have hl : (kvs (pre ++ e :: rest)).length = N := by rw [h]; simp [arrP]
  have hlt : pre.length < N := by
    rw [← hl]
    simp [kvs]
  have h1 : (kvs (pre ++ e :: rest))[pre.length]? = some (e.key, e.data) := by simp [kvs]
  rw [h] at h1
  unfold arrP at h1
  rw [List.getElem?_map, List.getElem?_range hlt] at h1
  simp only [Option.map_some, Option.some.injEq, Prod.mk.injEq] at h1
  exact ⟨hlt, h1.1.symm, h1.2.symm⟩
end Go.Proofs.Ytalahbmahpgkeaa
