/- TableGone, the plain law: keys that go one by one; new ones that come. -/
import Derived.Test.YtalahbmahpgkeaaSess
namespace Go.Proofs.Ytalahbmahpgkeaa
set_option linter.unusedVariables false
set_option linter.unusedSimpArgs false
open Go.RowKit Go.MapKept

section
variable {P : List Pr} {Ks : List ByteArray} {m : TM}
/-- What is left when the first i keys are gone. -/
def leftK (Ks : List ByteArray) (P : List Pr) (i : Nat) : List Pr := P.filter fun p => (Ks.take i).all fun k => decide (p.1 ≠ k)
theorem leftK_zero : leftK Ks P 0 = P := by
  unfold leftK
  exact List.filter_eq_self.2 (by simp)
theorem leftK_keys (hp : Ks.Perm (P.map (·.1))) (hn : (P.map (·.1)).Nodup) (i : Nat) : ((leftK Ks P i).map (·.1)).Perm (Ks.drop i) := by
  have h1 : (leftK Ks P i).map (·.1) = (P.map (·.1)).filter fun k => (Ks.take i).all fun j => decide (k ≠ j) := by
    unfold leftK
    rw [List.filter_map]
    rfl
  have hk : Ks.Nodup := hp.nodup_iff.2 hn
  have h2 : Ks.filter (fun k => (Ks.take i).all fun j => decide (k ≠ j)) = Ks.drop i := by
    have hsp := List.take_append_drop i Ks
    conv => lhs; rw [← hsp]
    rw [List.filter_append]
    have hdis : ∀ k ∈ Ks.drop i, k ∉ Ks.take i := by
      intro k h1 h2
      rw [← hsp] at hk
      exact (List.nodup_append.1 hk).2.2 k h2 k h1 rfl
    rw [hsp, List.filter_eq_nil_iff.2 (fun k hk h => by
      rw [List.all_eq_true] at h
      simpa using h k hk), List.nil_append]
    refine List.filter_eq_self.2 fun k hk => ?_
    rw [List.all_eq_true]
    intro j hj
    rw [decide_eq_true_iff]
    rintro rfl
    exact hdis _ hk hj
  rw [h1, ← h2]
  exact (hp.symm.filter _)
theorem leftK_len (hp : Ks.Perm (P.map (·.1))) (hn : (P.map (·.1)).Nodup) (i : Nat) : (leftK Ks P i).length = Ks.length - i := by
  have := (leftK_keys hp hn i).length_eq
  simpa using this
theorem leftK_all (hp : Ks.Perm (P.map (·.1))) (hn : (P.map (·.1)).Nodup) : leftK Ks P Ks.length = [] :=
  List.eq_nil_of_length_eq_zero (by rw [leftK_len hp hn]; omega)
theorem lookP_isSome {k : ByteArray} (h : k ∈ P.map (·.1)) : (lookP k P).isSome = true := by
  obtain ⟨p, hp, rfl⟩ := List.mem_map.1 h
  unfold lookP
  rw [Option.isSome_map]
  rw [List.find?_isSome]
  exact ⟨p, hp, by simp⟩
theorem leftK_next (i : Nat) (hi : i < Ks.length) : dropP Ks[i] (leftK Ks P i) = leftK Ks P (i + 1) := by
  unfold dropP leftK
  rw [List.filter_filter]
  refine List.filter_congr fun p _ => ?_
  rw [List.take_succ_eq_append_getElem hi]
  rw [List.all_append, Bool.and_comm]
  simp
theorem gone_step (hp : Ks.Perm (P.map (·.1))) (hn : (P.map (·.1)).Nodup) (hkd : m.kd ≠ 1) (hks : ∀ p ∈ P, (p.1.size : Int) = m.ks) {i : Nat} (hi : i < Ks.length) :
    delCP m Ks[i] (leftK Ks P i) = 0 ∧ delP m Ks[i] (leftK Ks P i) = leftK Ks P (i + 1) ∧ lookP Ks[i] (leftK Ks P (i + 1)) = none ∧ useP m Ks[i] (leftK Ks P (i + 1)) = leftK Ks P (i + 1) ∧
      delCP m Ks[i] (leftK Ks P (i + 1)) = 3 ∧ delP m Ks[i] (leftK Ks P (i + 1)) = leftK Ks P (i + 1) := by
  have hm : Ks[i] ∈ (leftK Ks P i).map (·.1) := (leftK_keys hp hn i).mem_iff.2 (by rw [List.mem_drop_iff_getElem]; exact ⟨0, by omega, by simp⟩)
  have hsz : (Ks[i].size : Int) = m.ks := by
    obtain ⟨p, h1, h2⟩ := List.mem_map.1 (hp.mem_iff.1 (List.getElem_mem hi))
    rw [← h2]
    exact hks p h1
  have hno : ∀ p ∈ leftK Ks P (i + 1), p.1 ≠ Ks[i] := by
    intro p hp' e
    rw [← leftK_next i hi] at hp'
    have := (List.mem_filter.1 hp').2
    simp at this
    exact this e
  have hl : lookP Ks[i] (leftK Ks P (i + 1)) = none := lookP_none hno
  refine ⟨?_, ?_, hl, ?_, ?_, ?_⟩
  · unfold delCP
    rw [if_neg (by omega), if_neg hkd, lookP_isSome hm]
    rfl
  · unfold delP
    rw [if_neg hkd, leftK_next i hi]
  · unfold useP
    rw [hl]
    split <;> rfl
  · unfold delCP
    rw [if_neg (by omega), if_neg hkd, hl]
    rfl
  · unfold delP dropP
    rw [if_neg hkd]
    exact List.filter_eq_self.2 (by simpa using hno)

/-- The i-th new key. -/
def goneK (K i : Nat) : ByteArray := pokeB (zeroB K) 0 (UInt8.ofNat i)
def goneP (K V i : Nat) : List Pr := (List.range i).map fun j => (goneK K j, zeroB V)
theorem goneK_size (K i : Nat) : (goneK K i).size = K := by rw [goneK, pokeB_size, zeroB_size]
def goneCheck (K i j : Nat) : Bool := decide (goneK K i = goneK K j) == (i == j)
theorem gone_apart : ∀ K < 5, 1 ≤ K → ∀ i < 12, ∀ j < 12, goneCheck K i j = true := by decide +kernel
theorem gone_put (K V N : Nat) (kd : Int) (hkd : kd = 2 ∨ kd = 3) (nm : ByteArray) (hK : 1 ≤ K) (hK4 : K ≤ 4) {i : Nat} (hi : i < N) (hN : N ≤ 12) :
    codeP ⟨nm, kd, K, V, N⟩ (goneK K i) (zeroB V) 1 (goneP K V i) = 0 ∧ updP ⟨nm, kd, K, V, N⟩ (goneK K i) (zeroB V) 1 (goneP K V i) = goneP K V (i + 1) := by
  have hl : lookP (goneK K i) (goneP K V i) = none := by
    refine lookP_none fun p hp e => ?_
    unfold goneP at hp
    obtain ⟨j, hj, rfl⟩ := List.mem_map.1 hp
    rw [List.mem_range] at hj
    have h := gone_apart K (by omega) hK j (by omega) i (by omega)
    unfold goneCheck at h
    rw [decide_eq_true e] at h
    have : (j == i) = true := by simpa using h
    have := beq_iff_eq.1 this
    omega
  have hlen : (goneP K V i).length = i := by simp [goneP]
  have hc : codeP ⟨nm, kd, K, V, N⟩ (goneK K i) (zeroB V) 1 (goneP K V i) = 0 := by
    unfold codeP
    rw [if_neg (by show ¬ (((goneK K i).size : Int) ≠ (K : Int) ∨ ((zeroB V).size : Int) ≠ (V : Int) ∨ _); rw [goneK_size, zeroB_size]; omega), hl]
    simp only [Option.isSome_none, Bool.false_eq_true, if_false]
    rw [if_neg (by omega)]
    unfold addCP
    rw [hlen, if_neg (by show ¬ kd = 1; omega), if_neg]
    rintro ⟨-, h⟩
    have : (N : Int) ≤ (i : Int) := h
    omega
  refine ⟨hc, ?_⟩
  unfold updP
  rw [if_pos hc, hl, if_neg (by simp)]
  unfold addP
  rw [hlen, if_pos (by show (i : Int) + 1 ≤ (N : Int); omega)]
  unfold goneP
  rw [List.range_succ, List.map_append]
  rfl
end
end Go.Proofs.Ytalahbmahpgkeaa
