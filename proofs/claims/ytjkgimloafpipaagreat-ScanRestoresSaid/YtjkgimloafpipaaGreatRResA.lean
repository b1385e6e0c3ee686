/- What stands under the walks, part A. -/
import Derived.Test.YtjkgimloafpipaaGreatScanA
import Derived.Test.YtjkgimloafpipaaGreatRefScan
/- An entry of a text of entries, and where it lies. -/
namespace Go.Proofs.YtjkgimloafpipaaGreat
set_option linter.unusedVariables false
set_option linter.unusedSimpArgs false
open Go.RowKit Go.MapKept
theorem extract_sub (b : ByteArray) (i n : Nat) : b.extract i (i + n) = sub b i n := by
  apply byteArray_ext
  unfold sub
  rw [Go.Lib.extract_data]
  simp
/-- Entry i of the text, and the numbers by which Go cuts it out. -/
theorem ent_cut {s : ByteArray} {K V sz T n : Nat} (hT : s.size = T) (hsz : K + V = sz) (hn : T / sz = n) (hnT : n * sz = T) (hs : T ≤ 1000000) (hsz1 : 1 ≤ sz) (hszb : sz ≤ 320) (i : Nat) (hi : i < n) :
    ∃ (p : Pr) (A B C : Nat), (entsB K V s)[i]? = some p ∧ wrap64 ((sz : Int) * (i : Int)) = (A : Int) ∧ wrap64 ((A : Int) + (K : Int)) = (B : Int) ∧ wrap64 ((A : Int) + (sz : Int)) = (C : Int) ∧ s.extract A B = p.1 ∧ s.extract B C = p.2 ∧ (A : Int) ≤ (B : Int) ∧ (B : Int) ≤ (C : Int) ∧ (B : Int) ≤ (s.size : Int) ∧ (C : Int) ≤ (s.size : Int) ∧ (0 : Int) ≤ (A : Int) ∧ (0 : Int) ≤ (B : Int) ∧ (i : Int) < (n : Int) ∧ wrap64 ((i : Int) + 1) = (i : Int) + 1 := by
  have hle : (i + 1) * sz ≤ n * sz := Nat.mul_le_mul_right _ hi
  rw [hnT, Nat.succ_mul] at hle
  have hnn : n ≤ T := by rw [← hn]; exact Nat.div_le_self _ _
  have hmul : (sz : Int) * (i : Int) = ((i * sz : Nat) : Int) := by rw [Int.natCast_mul, Int.mul_comm]
  rw [hmul]
  have hE : (entsB K V s)[i]? = some (sub s (i * sz) K, sub s (i * sz + K) V) := by
    unfold entsB
    rw [List.getElem?_map, List.getElem?_range (by rw [hT, hsz, hn]; exact hi), hsz]
    rfl
  generalize i * sz = A at *
  clear hmul hn hnT
  refine ⟨_, A, A + K, A + sz, hE, IntWalk.wrap64_in _ (by omega), ?_, ?_, extract_sub _ _ _, ?_, by omega, by omega, by omega, by omega, by omega, by omega, by omega, IntWalk.wrap64_in _ (by omega)⟩
  · rw [IntWalk.wrap64_in _ (by omega)]; omega
  · rw [IntWalk.wrap64_in _ (by omega)]; omega
  · rw [show A + sz = A + K + V by omega]
    exact extract_sub _ _ _
theorem wrap_pred {i : Nat} (h0 : 0 < i) (hi : i ≤ 1000000) : wrap64 ((i : Int) - 1) = ((i - 1 : Nat) : Int) := by
  rw [IntWalk.wrap64_in _ (by omega)]; omega
theorem small_pr {a b K V : Nat} (h1 : (a : Int) = (K : Int)) (h2 : (b : Int) = (V : Int)) (hK : K ≤ 64) (hV : V ≤ 256) : a ≤ 1000 ∧ b ≤ 1000 := by omega
theorem meas_next {i n : Nat} (h : i < n) : n - (intOf (.int .i64 ((i : Int) + 1))).toNat < n - (intOf (.int .i64 (i : Int))).toNat := by
  simp only [intOf]
  omega
theorem le_big11 {a : Nat} (h : a ≤ 1000) : a ≤ 9223372036854775807 := by omega
theorem lt_big11 {i n T : Nat} (h : i < n) (h1 : n ≤ T) (h2 : T ≤ 1000000) : i < 1000000 := by omega
theorem le_no12 {a b : ByteArray} (h : keyLt a b = true) : Op.bytesLess b.toList a.toList = false ∧ (b.toList == a.toList) = false := by
  refine ⟨by rw [keyLt_less]; exact keyLt_asymm h, ?_⟩
  rw [beq_eq_false_iff_ne]
  intro e
  rw [Lib.toList_data, Lib.toList_data] at e
  rw [byteArray_ext e, keyLt_irrefl] at h
  cases h
end Go.Proofs.YtjkgimloafpipaaGreat

/- The document's Restore, plain: when a text is a table. -/
namespace Go.Proofs.YtjkgimloafpipaaGreat
set_option linter.unusedVariables false
set_option linter.unusedSimpArgs false
open Go.RowKit Go.MapKept

/-- The text is a table's. -/
def rresOK (m : TM) (s : ByteArray) : Prop := m.right = true ∧ s.size % (m.ks.toNat + m.vs.toNat) = 0 ∧ ((s.size / (m.ks.toNat + m.vs.toNat) : Nat) : Int) ≤ m.mx ∧ (m.kd = 1 → ((s.size / (m.ks.toNat + m.vs.toNat) : Nat) : Int) = m.mx) ∧ resOK m (entsB m.ks.toNat m.vs.toNat s)
def RResPost (m : TM) (s : ByteArray) (W : World) (e : Ending) (w' : World) : Prop :=
  Kept (fun _ => False) W w' ∧ ((rresOK m s ∧ ∃ br F, e = .returned (.tuple #[.pointer (some ⟨br, 0, none⟩), .int .i64 0]) ∧ RSes m br (entsB m.ks.toNat m.vs.toNat s) F w') ∨ (¬ rresOK m s ∧ e = .returned (.tuple #[.pointer none, .int .i64 (if m.right = true then 2 else 1)])))
/-- What the first i of them must be. -/
def resPre (m : TM) (E : List Pr) (i : Nat) : Prop := (m.kd = 1 → (E.take i).map (·.1) = (List.range i).map numK) ∧ (m.kd = 2 → Rises keyP (E.take i)) ∧ (m.kd = 3 → ((E.take i).map (·.1)).Nodup)
theorem resOK_pre {m : TM} {E : List Pr} (h : resOK m E) (hl : m.kd = 1 → (E.length : Int) = m.mx) (i : Nat) (hi : i ≤ E.length) : resPre m E i := by
  refine ⟨fun h1 => ?_, fun h2 => (h.2.1 h2).sublist (List.take_sublist _ _), fun h3 => ?_⟩
  · rw [List.map_take, h.1 h1, ← List.map_take, List.take_range]
    have := hl h1
    congr 2
    omega
  · rw [List.map_take]
    exact (h.2.2 h3).sublist (List.take_sublist _ _)
theorem pre_resOK {m : TM} {E : List Pr} (h : resPre m E E.length) (hl : m.kd = 1 → (E.length : Int) = m.mx) : resOK m E := by
  unfold resPre at h
  rw [List.take_length] at h
  refine ⟨fun h1 => ?_, h.2.1, h.2.2⟩
  rw [h.1 h1]
  have := hl h1
  congr 2
  omega
theorem pre_next {m : TM} {E : List Pr} {i : Nat} {p : Pr} (hk : m.kd = 1 ∨ m.kd = 2 ∨ m.kd = 3) (hp : E[i]? = some p) (h : resPre m E i) (h1 : m.kd = 1 → p.1 = numK i) (h2 : m.kd = 2 → ∀ q, E[i - 1]? = some q → i = 0 ∨ keyLt q.1 p.1 = true) (h3 : m.kd = 3 → p.1 ∉ (E.take i).map (·.1)) :
    resPre m E (i + 1) ∧ (m.kd = 2 → ∀ q ∈ E.take i, keyLt q.1 p.1 = true) := by
  have hri : m.kd = 2 → ∀ q ∈ E.take i, keyLt q.1 p.1 = true := by
    intro hk2 q hq
    by_cases h0 : i = 0
    · subst h0; simp at hq
    · obtain ⟨i', rfl⟩ : ∃ i', i = i' + 1 := ⟨i - 1, by omega⟩
      have hil := (List.getElem?_eq_some_iff.1 hp).1
      obtain ⟨q', hq'⟩ : ∃ q', E[i']? = some q' := ⟨_, List.getElem?_eq_getElem (by omega)⟩
      have hlt := (h2 hk2 q' hq').resolve_left (by omega)
      have hr := h.2.1 hk2
      rw [take_snoc' hq'] at hr hq
      unfold Rises at hr
      rw [List.pairwise_append] at hr
      rcases List.mem_append.1 hq with hq | hq
      · exact keyLt_trans (hr.2.2 q hq q' (by simp)) hlt
      · rw [List.mem_singleton] at hq
        rw [hq]
        exact hlt
  refine ⟨⟨fun hk1 => ?_, fun hk2 => ?_, fun hk3 => ?_⟩, hri⟩
  · rw [take_snoc' hp, List.map_append, h.1 hk1, List.range_succ, List.map_append]
    show _ ++ [p.1] = _ ++ [numK i]
    rw [h1 hk1]
  · rw [take_snoc' hp]
    unfold Rises
    rw [List.pairwise_append]
    refine ⟨h.2.1 hk2, by simp, fun q hq y hy => ?_⟩
    rw [List.mem_singleton] at hy
    rw [hy]
    exact hri hk2 q hq
  · rw [take_snoc' hp, List.map_append, List.nodup_append]
    refine ⟨h.2.2 hk3, by simp, fun q hq y hy => ?_⟩
    have hy : y = p.1 := by simpa using hy
    rw [hy]
    exact fun e => h3 hk3 (by rw [← e]; exact hq)
end Go.Proofs.YtjkgimloafpipaaGreat
