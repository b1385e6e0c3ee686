/- swingbridgeref09.List in memory: a row of pairs behind a pointer. -/
import Derived.Test.YteiilokhkpaoeaaModel
import Derived.Test.YteiilokhkpaoeaaBytes
import Derived.Test.YteiilokhkpaoeaaAppend
import Derived.Test.YteiilokhkpaoeaaProg
import Derived.WalkLawsBesides
import Derived.Maps.AppendAt
import Derived.Deep.AppendLies
import Derived.Deep.RegionHeld3
import Derived.Lib.Hide
namespace Go.Proofs.Yteiilokhkpaoeaa
set_option linter.unusedVariables false
set_option linter.unusedSimpArgs false
open Go.RowKit Go.MapKept

abbrev P9 := ByteArray × Int
/-- The cells of pairs. -/
def flat9 : List P9 → List Value
  | [] => []
  | p :: ps => .string p.1 :: .int .i64 p.2 :: flat9 ps
theorem flat9_len (ps : List P9) : (flat9 ps).length = ps.length * 2 := by
  induction ps with
  | nil => rfl
  | cons p ps ih => simp [flat9, ih]; omega
theorem flat9_append (a b : List P9) : flat9 (a ++ b) = flat9 a ++ flat9 b := by
  induction a with
  | nil => rfl
  | cons p ps ih => simp [flat9, ih]
theorem flat9_get (ps : List P9) (i : Nat) (p : P9) (h : ps[i]? = some p) : (flat9 ps)[2 * i]? = some (.string p.1) ∧ (flat9 ps)[2 * i + 1]? = some (.int .i64 p.2) := by
  induction ps generalizing i with
  | nil => simp at h
  | cons q ps ih =>
    cases i with
    | zero => simp at h; subst h; simp [flat9]
    | succ i =>
      have := ih i (by simpa using h)
      rw [show 2 * (i + 1) = 2 * i + 1 + 1 by omega, show 2 * i + 1 + 1 + 1 = (2 * i + 1) + 1 + 1 by omega]
      simpa [flat9] using this
theorem flat9_one (ps : List P9) : ∀ u ∈ flat9 ps, u.oneCell' = true := by
  induction ps with
  | nil => simp [flat9]
  | cons q ps ih =>
    intro u hu
    simp only [flat9, List.mem_cons] at hu
    rcases hu with rfl | rfl | hu
    · rfl
    · rfl
    · exact ih u hu

/-- The document's list at block br, its row sv. -/
structure Ref9 (w : World) (br : Nat) (most : Int) (sv : Value) (ps : List P9) : Prop where
  row : RowAt w br 2
  most : w.cell? ⟨br, 0, none⟩ = some (.int .i64 most)
  sl : w.cell? ⟨br, 1, none⟩ = some sv
  own : w.ownsRow 0 58 2 sv ps.length (flat9 ps)
  ne : sv.ownBlock ≠ some br

def Rfp (br : Nat) (sv : Value) (b : Nat) : Prop := b = br ∨ sv.ownBlock = some b

theorem Ref9.lt {w : World} {br : Nat} {most : Int} {sv : Value} {ps : List P9} (h : Ref9 w br most sv ps) : ∀ b, Rfp br sv b → b < w.heap.size := by
  rintro b (rfl | h1)
  · exact h.row.lt
  · exact (h.own.lt b h1).2
theorem Ref9.kept {w w' : World} {S : Nat → Prop} {br : Nat} {most : Int} {sv : Value} {ps : List P9} (h : Ref9 w br most sv ps) (k : Kept S w w') (hn : ∀ b, Rfp br sv b → ¬ S b) : Ref9 w' br most sv ps :=
  ⟨h.row.kept k (hn br (.inl rfl)), (k.cell h.row.lt (hn br (.inl rfl))).trans h.most, (k.cell h.row.lt (hn br (.inl rfl))).trans h.sl, ownsRow_kept h.own k (fun b e => hn b (.inr e)), h.ne⟩
theorem Ref9.twin {w w' : World} {br : Nat} {most : Int} {sv : Value} {ps : List P9} (h : Ref9 w br most sv ps) (t : Twin w' w) : Ref9 w' br most sv ps :=
  h.kept ((Kept.refl (fun _ => False) w).twin t) (fun _ _ e => e)

theorem info9 : (Try.prog.info? 58).map (fun i => (i.zero, i.size, i.bytes)) = some (some (.agg #[.string ⟨#[]⟩, .int .i64 0]), 2, 24) := by kernel_rfl

section
variable {w : World} {br : Nat} {most : Int} {sv : Value} {ps : List P9} {k : ByteArray}

theorem ref9_new (n : Int) (w : World) : Calls Try.prog 26 #[.int .i64 n] w fun e w' => e = .returned (.pointer (some ⟨w.heap.size, 0, none⟩)) ∧ Ref9 w' w.heap.size (max n 1) (.slice none 0 0) [] ∧ Kept (fun _ => False) w w' := by
  have fin : ∀ m : Int, Ref9 (w.alloc (.cells #[.int .i64 m, .slice none 0 0] 61)) w.heap.size m (.slice none 0 0) [] ∧ Kept (fun _ => False) w (w.alloc (.cells #[.int .i64 m, .slice none 0 0] 61)) := fun m =>
    ⟨⟨RowAt.new w _ _, by simp, by simp, World.ownsRow_nil _ _ _ _, by simp [Value.ownBlock]⟩, Kept.one_alloc _ _⟩
  by_cases h : n < 1
  · rw [show max n 1 = 1 by omega]
    have f := fin 1
    go_enter Try.func26, Try.ntmps26
    go_wp2
    go_ret
    exact ⟨rfl, f⟩
  · rw [show max n 1 = n by omega]
    have f := fin n
    go_enter Try.func26, Try.ntmps26
    go_wp2
    go_ret
    exact ⟨rfl, f⟩

/-- What lies at a place of a row. -/
theorem Ref9.at (h : Ref9 w br most sv ps) {i : Nat} {p : P9} (hp : ps[i]? = some p) : ∃ g c, sv = .slice (some ⟨g, 0, none⟩) ps.length c ∧ w.cell? ⟨g, i * 2, none⟩ = some (.string p.1) ∧ w.cell? ⟨g, i * 2 + 1, none⟩ = some (.int .i64 p.2) := by
  obtain ⟨a, c, rfl, hg, -⟩ := own_form h.own
  have hi := (List.getElem?_eq_some_iff.1 hp).1
  obtain ⟨g, rfl⟩ := hg (by omega)
  have hc := h.own.cells (g := g) rfl
  have hf := flat9_get ps i p hp
  have e : ∀ j, (⟨g, 0, none⟩ : Addr).add j = ⟨g, j, none⟩ := by intro j; unfold Addr.add; split <;> simp_all
  have h1 := hc _ _ hf.1
  have h2 := hc _ _ hf.2
  rw [e] at h1 h2
  exact ⟨g, c, rfl, by rw [Nat.mul_comm]; exact h1, by rw [Nat.mul_comm]; exact h2⟩

set_option maxHeartbeats 400000 in
theorem ref9_find_miss (h : Ref9 w br most sv ps) (hl : ps.length ≤ 9223372036854775807) (hk : ∀ p ∈ ps, p.1 ≠ k) : Calls Try.prog 36 #[.pointer (some ⟨br, 0, none⟩), .string k] w fun e w' => e = .returned (.int .i64 (-1)) ∧ w = w' := by
  obtain ⟨a, c, rfl, hg, -⟩ := own_form h.own
  have hs := h.sl
  go_enter Try.func36, Try.ntmps36
  go_wp2
  go_loop [5] (fun i => ∃ j : Nat, j ≤ ps.length ∧ i = .int .i64 j) (fun i => ps.length - (intOf i).toNat)
  case atStart => exact ⟨0, Nat.zero_le _, rfl⟩
  case round =>
    obtain ⟨j, hj, rfl⟩ := hrel
    by_cases hlt : j < ps.length
    · obtain ⟨g, c', e, h1, h2⟩ := h.at (List.getElem?_eq_getElem hlt)
      injection e with e1 e2 e3
      subst e1
      subst e3
      have hne := bytes_ne (hk ps[j] (List.getElem_mem hlt))
      clear hg
      go_wp2
      go_round
      case rel => exact ⟨j + 1, by omega, by go_num⟩
      case measure => simp [intOf]; omega
    · clear hg
      go_wp2
      go_ret
      exact ⟨rfl, rfl⟩

set_option maxHeartbeats 400000 in
theorem ref9_find_hit {l1 l2 : List P9} {x : P9} (h : Ref9 w br most sv (l1 ++ x :: l2)) (hl : (l1 ++ x :: l2).length ≤ 9223372036854775807) (hk : ∀ p ∈ l1, p.1 ≠ x.1) : Calls Try.prog 36 #[.pointer (some ⟨br, 0, none⟩), .string x.1] w fun e w' => e = .returned (.int .i64 l1.length) ∧ w = w' := by
  obtain ⟨a, c, rfl, hg, -⟩ := own_form h.own
  have hs := h.sl
  have hat : ∀ (j : Nat) (p : P9), (l1 ++ x :: l2)[j]? = some p → ∃ (g : Nat) (c' : Nat), a = some ⟨g, 0, none⟩ ∧ w.cell? ⟨g, j * 2, none⟩ = some (.string p.1) := by
    intro j p hp
    obtain ⟨g, c', e, h1, h2⟩ := h.at hp
    injection e with e1 e2 e3
    exact ⟨g, c', e1, h1⟩
  have HAT := Lib.hid hat
  have hN : l1.length < (l1 ++ x :: l2).length := by simp
  generalize (l1 ++ x :: l2).length = N at hl hs hg hN ⊢
  clear hat h
  go_enter Try.func36, Try.ntmps36
  go_wp2
  go_loop [5] (fun i => ∃ j : Nat, j ≤ l1.length ∧ i = .int .i64 j) (fun i => l1.length - (intOf i).toNat)
  case atStart => exact ⟨0, Nat.zero_le _, rfl⟩
  case round =>
    obtain ⟨j, hj, rfl⟩ := hrel
    have hlt : j < N := by omega
    by_cases hlt1 : j < l1.length
    · obtain ⟨g, c', rfl, h1⟩ := HAT.out j l1[j] (by rw [List.getElem?_append_left hlt1]; exact List.getElem?_eq_getElem hlt1)
      have hne := bytes_ne (hk l1[j] (List.getElem_mem hlt1))
      clear hg
      go_wp2
      go_round
      case rel => exact ⟨j + 1, by omega, by go_num⟩
      case measure => simp [intOf]; omega
    · obtain rfl : j = l1.length := by omega
      obtain ⟨g, c', rfl, h1⟩ := HAT.out l1.length x (by simp)
      have hne := bytes_self x.1
      clear hg
      go_wp2
      go_ret
      exact ⟨rfl, rfl⟩
end
end Go.Proofs.Yteiilokhkpaoeaa
