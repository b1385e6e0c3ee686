/- TableOrder: the plain law. -/
import Derived.Test.YtalahbmahpgkeaaTblF
namespace Go.Proofs.Ytalahbmahpgkeaa
set_option linter.unusedVariables false
set_option linter.unusedSimpArgs false
open Go.RowKit Go.MapKept

def ordM (N : Nat) : TM := ⟨⟨#[109]⟩, 3, 1, 1, N⟩
theorem b1_inj {a b : Nat} (ha : a < 256) (hb : b < 256) (h : b1 a = b1 b) : a = b := by
  unfold b1 at h
  have h1 : (⟨#[UInt8.ofNat a]⟩ : ByteArray).data = (⟨#[UInt8.ofNat b]⟩ : ByteArray).data := congrArg ByteArray.data h
  simp only [Array.mk.injEq, List.cons.injEq, and_true] at h1
  have h2 := congrArg UInt8.toNat h1
  simp only [UInt8.toNat_ofNat'] at h2
  omega
/-- A table's keys, as numbers. -/
structure KeysOf (P : List Pr) (os : List Nat) : Prop where
  e : P.map (·.1) = os.map b1
  nd : os.Nodup
  lt : ∀ u ∈ os, u < 256
section
variable {P : List Pr} {os : List Nat} {u N : Nat} {v : ByteArray}
theorem KeysOf.len (h : KeysOf P os) : P.length = os.length := by have := congrArg List.length h.e; simpa using this
theorem KeysOf.none (h : KeysOf P os) (hu : u < 256) (hn : u ∉ os) : lookP (b1 u) P = none := by
  refine lookP_none fun p hp e => hn ?_
  have : p.1 ∈ os.map b1 := by rw [← h.e]; exact List.mem_map_of_mem hp
  obtain ⟨x, hx, hxe⟩ := List.mem_map.1 this
  rw [e] at hxe
  rw [← b1_inj (h.lt x hx) hu hxe]
  exact hx
theorem KeysOf.some (h : KeysOf P os) (hm : u ∈ os) : ∃ d, lookP (b1 u) P = some d := by
  cases hl : lookP (b1 u) P with
  | some d => exact ⟨d, rfl⟩
  | none =>
    have : b1 u ∈ P.map (·.1) := by rw [h.e]; exact List.mem_map_of_mem hm
    obtain ⟨p, hp, hpe⟩ := List.mem_map.1 this
    unfold lookP at hl
    rw [Option.map_eq_none_iff, List.find?_eq_none] at hl
    exact (hl p hp (by simpa using hpe)).elim
theorem keys_drop (h : KeysOf P os) (hu : u < 256) : (dropP (b1 u) P).map (·.1) = (os.filter fun x => decide (x ≠ u)).map b1 := by
  obtain ⟨e, nd, lt⟩ := h
  clear nd
  unfold dropP
  induction P generalizing os with
  | nil =>
    cases os with
    | nil => rfl
    | cons o os => simp at e
  | cons p P ih =>
    cases os with
    | nil => simp at e
    | cons o os =>
      simp only [List.map_cons, List.cons.injEq] at e
      have ih := ih e.2 (fun x hx => lt x (.tail _ hx))
      have ho := lt o (.head _)
      by_cases hou : o = u
      · subst hou
        rw [List.filter_cons_of_neg (by simp [e.1]), List.filter_cons_of_neg (by simp)]
        exact ih
      · have hne : p.1 ≠ b1 u := fun h => hou (b1_inj ho hu (e.1.symm.trans h))
        rw [List.filter_cons_of_pos (by simpa using hne), List.filter_cons_of_pos (by simpa using hou), List.map_cons, List.map_cons, ih, e.1]
theorem keys_set (k v : ByteArray) (P : List Pr) : (setP k v P).map (·.1) = P.map (·.1) := by
  unfold setP
  rw [List.map_map]
  refine List.map_congr_left fun p hp => ?_
  simp only [Function.comp]
  split <;> rfl
theorem nodup_move {os : List Nat} (h : os.Nodup) (u : Nat) : ((os.filter fun x => decide (x ≠ u)) ++ [u]).Nodup := by
  refine List.nodup_append.2 ⟨h.filter _, by simp, fun a ha b hb => ?_⟩
  have := (List.mem_filter.1 ha).2
  rw [List.mem_singleton.1 hb]
  simpa using this
theorem law_use (h : KeysOf P os) (hm : u ∈ os) : KeysOf (useP (ordM N) (b1 u) P) ((os.filter fun x => decide (x ≠ u)) ++ [u]) := by
  obtain ⟨d, hd⟩ := h.some hm
  refine ⟨?_, nodup_move h.nd u, fun x hx => ?_⟩
  · unfold useP
    rw [if_pos (show (ordM N).kd = 3 from rfl), hd]
    show (dropP (b1 u) P ++ [(b1 u, d)]).map (·.1) = _
    rw [List.map_append, keys_drop h (h.lt u hm), List.map_append]
    rfl
  · rcases List.mem_append.1 hx with hx | hx
    · exact h.lt x ((List.mem_filter.1 hx).1)
    · rw [List.mem_singleton.1 hx]; exact h.lt u hm
theorem code_zero (h1 : v.size = 1) (hu : (lookP (b1 u) P).isSome = true ∨ addCP (ordM N) P = 0) : codeP (ordM N) (b1 u) v 0 P = 0 := by
  unfold codeP
  rw [if_neg (by show ¬ ((1 : Int) ≠ 1 ∨ (v.size : Int) ≠ 1 ∨ (0 : Int) < 0 ∨ (2 : Int) < 0); rw [h1]; omega)]
  split
  · rw [if_neg (by decide)]
  · rename_i hn
    rw [if_neg (by decide)]
    exact hu.resolve_left hn
theorem law_upd (h : KeysOf P os) (hm : u ∈ os) (h1 : v.size = 1) : KeysOf (updP (ordM N) (b1 u) v 0 P) ((os.filter fun x => decide (x ≠ u)) ++ [u]) := by
  obtain ⟨d, hd⟩ := h.some hm
  have hs : (lookP (b1 u) P).isSome = true := by rw [hd]; rfl
  have e : updP (ordM N) (b1 u) v 0 P = setP (b1 u) v (useP (ordM N) (b1 u) P) := by
    unfold updP
    rw [code_zero h1 (.inl hs), if_pos (show (0 : Int) = 0 from rfl), if_pos hs]
  rw [e]
  have := law_use (N := N) h hm
  exact ⟨by rw [keys_set]; exact this.e, this.nd, this.lt⟩
theorem law_new (h : KeysOf P os) (hu : u < 256) (hn : u ∉ os) (h1 : v.size = 1) : updP (ordM N) (b1 u) v 0 P = addP (ordM N) (b1 u, v) P := by
  have hs := h.none hu hn
  unfold updP
  rw [code_zero h1 (.inr (by unfold addCP; rw [if_neg (by show ¬ (3 : Int) = 1; decide), if_neg (by rintro ⟨h, -⟩; exact absurd h (by show ¬ (3 : Int) = 2; decide))])), if_pos (show (0 : Int) = 0 from rfl), if_neg (by rw [hs]; simp)]
theorem law_add (h : KeysOf P os) (hu : u < 256) (hn : u ∉ os) (h1 : v.size = 1) (hl : os.length < N) : KeysOf (updP (ordM N) (b1 u) v 0 P) (os ++ [u]) := by
  rw [law_new h hu hn h1]
  have hlen := h.len
  unfold addP
  rw [if_pos (by show (P.length : Int) + 1 ≤ (N : Int); omega)]
  refine ⟨by rw [List.map_append, List.map_append, h.e]; rfl, List.nodup_append.2 ⟨h.nd, by simp, fun a ha b hb => ?_⟩, fun x hx => ?_⟩
  · rw [List.mem_singleton.1 hb]
    rintro rfl
    exact hn ha
  · rcases List.mem_append.1 hx with hx | hx
    · exact h.lt x hx
    · rw [List.mem_singleton.1 hx]; exact hu
theorem law_push (h : KeysOf P os) (hu : u < 256) (hn : u ∉ os) (h1 : v.size = 1) (hl : os.length = N) : KeysOf (updP (ordM N) (b1 u) v 0 P) (os.tail ++ [u]) := by
  rw [law_new h hu hn h1]
  have hlen := h.len
  unfold addP
  rw [if_neg (by show ¬ ((P.length : Int) + 1 ≤ (N : Int)); omega)]
  refine ⟨by rw [List.map_append, List.map_append, List.map_tail, h.e, ← List.map_tail]; rfl, List.nodup_append.2 ⟨h.nd.sublist (List.tail_sublist _), by simp, fun a ha b hb => ?_⟩, fun x hx => ?_⟩
  · rw [List.mem_singleton.1 hb]
    rintro rfl
    exact hn (List.mem_of_mem_tail ha)
  · rcases List.mem_append.1 hx with hx | hx
    · exact h.lt x (List.mem_of_mem_tail hx)
    · rw [List.mem_singleton.1 hx]; exact hu
end
/-- The order behind a use. -/
def moveU (u : Nat) (os : List Nat) : List Nat := (os.filter fun x => decide (x ≠ u)) ++ [u]
theorem moveU_len {os : List Nat} (hn : os.Nodup) {u : Nat} (hm : u ∈ os) : (moveU u os).length = os.length := by
  obtain ⟨l1, l2, rfl⟩ := List.append_of_mem hm
  have hn2 := List.nodup_append.1 hn
  have a1 : ∀ x ∈ l1, x ≠ u := fun x hx e => hn2.2.2 x hx u (by simp) e
  have a2 : ∀ x ∈ l2, x ≠ u := fun x hx e => (List.nodup_cons.1 hn2.2.1).1 (by rw [← e]; exact hx)
  unfold moveU
  rw [List.filter_append, List.filter_cons_of_neg (by simp), List.filter_eq_self.2 (by simpa using a1), List.filter_eq_self.2 (by simpa using a2)]
  simp
theorem moveU_mem {os : List Nat} {u : Nat} (hm : u ∈ os) (x : Nat) : x ∈ moveU u os ↔ x ∈ os := by
  unfold moveU
  rw [List.mem_append, List.mem_filter, List.mem_singleton]
  constructor
  · rintro (⟨h, -⟩ | rfl)
    · exact h
    · exact hm
  · intro h
    by_cases e : x = u
    · exact .inr e
    · exact .inl ⟨h, by simpa using e⟩
end Go.Proofs.Ytalahbmahpgkeaa
