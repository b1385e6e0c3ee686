/- Which maps may be: the program's answer, and the document's. -/
import Derived.Test.YtdkcnigghcbnpaaGreatProg
import Derived.Test.YtdkcnigghcbnpaaGreatNames
import Derived.Test.YtdkcnigghcbnpaaGreatShelf
import Derived.Test.YtdkcnigghcbnpaaGreatGenA
import Derived.Test.YtdkcnigghcbnpaaGreatGenB
import Derived.WalkLawsBesides
import Derived.BigRegion
import Derived.Deep.QuietTactic
import Derived.BigQuiet
import Derived.Lib.Hide
namespace Go.Proofs.YtdkcnigghcbnpaaGreat
set_option linter.unusedVariables false
set_option linter.unusedSimpArgs false
open Go.RowKit

def withinB (n m : Int) : Bool := decide (1 ≤ n) && decide (n ≤ m)
theorem within_any (n m : Int) (w : World) : Calls Tryz.prog 71 #[.int .i64 n, .int .i64 m] w fun e w' => e = .returned (.bool (withinB n m)) ∧ w = w' := by
  go_enter Tryz.func71, Tryz.ntmps71
  go_wp2
  all_goals
    go_ret
    refine ⟨congrArg (fun b => Ending.returned (Value.bool b)) ?_, rfl⟩
    rw [Bool.eq_iff_iff]
    simp [withinB]
    try omega

theorem other_any (x : Nat) (W : World) : Calls Tryz.prog 102 #[.int .i32 (x : Int)] W fun e w' => e = .returned (.bool (!clsB x)) ∧ w' = W := by
  go_enter Tryz.func102, Tryz.ntmps102
  go_wp2
  all_goals
    go_ret
    refine ⟨congrArg (fun b => Ending.returned (Value.bool b)) ?_, rfl⟩
    rw [Bool.eq_iff_iff]
    simp [clsB]
    try omega
theorem other_pays (w : World) : PredAt Tryz.prog 102 #[] encR (fun r => !clsB r) w := by
  intro W x _
  unfold FnGives
  exact (other_any x W).mono fun e w' ⟨h1, h2⟩ => ⟨h1, 0, by rw [h2]; rfl⟩
def SayContains : Prop := ∀ (s : ByteArray) (w : World), Calls Tryz.prog 103 #[.string s, .func (.func 102) #[] #[]] w fun e w' => e = .returned (.bool (!(s.data.toList.all fun b => clsB b.toNat))) ∧ Kept (fun _ => False) w w'

theorem say_contains : SayContains := fun s w => by
  have h := Any.strings_ContainsFunc Tryz.laysGw17 102 #[] (enters_of Tryz.func102 (by kernel_rfl) rfl) (fun r => !clsB r) s w (other_pays w)
  change Calls Tryz.prog 103 _ _ _ at h
  rw [contains_other] at h
  exact h.mono fun e w' ⟨h1, h2⟩ => ⟨h1, (Kept.of_below h2).none⟩

theorem name_any (s : ByteArray) (w : World) : Calls Tryz.prog 70 #[.string s] w fun e w' => e = .returned (.bool (nameB s)) ∧ Kept (fun _ => False) w w' := by
  by_cases h1 : s.size = 0
  · have hs : s = ⟨#[]⟩ := by cases s; simp [ByteArray.size] at h1; simp [h1]
    subst hs
    go_enter Tryz.func70, Tryz.ntmps70
    go_wp2
    go_ret
    exact ⟨rfl, .refl _ _⟩
  · have hne : s.toList ≠ [] := by
      intro e
      rw [Lib.toList_data] at e
      exact h1 (by have := congrArg List.length e; simpa using this)
    have hb : s.toList.isEmpty = false := by
      cases h : s.toList with
      | nil => exact (hne h).elim
      | cons a l => rfl
    clear hne
    by_cases h2 : s.size ≤ 16
    · go_enter Tryz.func70, Tryz.ntmps70
      go_wp2_with fail
      refine (say_contains s w).mono ?_
      rintro e w1 ⟨rfl, k1⟩
      have hfin : nameB s = (s.data.toList.all fun b => clsB b.toNat) := by
        unfold nameB
        rw [decide_eq_true (by omega), decide_eq_true h2]
        simp
      have HF := Lib.hid hfin
      generalize (s.data.toList.all fun b => clsB b.toNat) = r at HF ⊢
      clear hfin
      go_wp2_with fail
      go_ret
      exact ⟨by rw [HF.out]; cases r <;> rfl, k1⟩
    · go_enter Tryz.func70, Tryz.ntmps70
      go_wp2_with fail
      go_ret
      exact ⟨by simp [nameB, h2], .refl _ _⟩

/-- May a map be? -/
def rightB (nm : ByteArray) (kd key val mx : Int) : Bool :=
  nameB nm && (decide (1 ≤ kd) && decide (kd ≤ 3)) && withinB key 64 && (decide (kd ≠ 1) || decide (key = 4)) && withinB val 256 && withinB mx 1024

set_option maxHeartbeats 1000000 in
theorem right_any (nm : ByteArray) (kd key val mx : Int) (w : World) :
    Calls Tryz.prog 42 #[.agg #[.string nm, .int .i64 kd, .int .i64 key, .int .i64 val, .int .i64 mx]] w fun e w' => e = .returned (.bool (rightB nm kd key val mx)) ∧ Kept (fun _ => False) w w' := by
  obtain ⟨R, hR⟩ : ∃ R, rightB nm kd key val mx = R := ⟨_, rfl⟩
  rw [hR]
  unfold rightB at hR
  have HR := Lib.hid hR
  clear hR
  go_enter Tryz.func42, Tryz.ntmps42
  go_wp2_with fail
  refine (name_any nm _).mono ?_
  rintro e w1 ⟨rfl, k1⟩
  have hz : (w.alloc (.cells #[.string nm, .int .i64 kd, .int .i64 key, .int .i64 val, .int .i64 mx] 35)).heap.size = w.heap.size + 1 := by simp
  have hcell : ∀ i, w1.cell? ⟨w.heap.size, i, none⟩ = (w.alloc (.cells #[.string nm, .int .i64 kd, .int .i64 key, .int .i64 val, .int .i64 mx] 35)).cell? ⟨w.heap.size, i, none⟩ := fun i => k1.cell (p := ⟨w.heap.size, i, none⟩) (by rw [hz]; exact Nat.lt_succ_self _) (fun e => e)
  have c1 : w1.cell? ⟨w.heap.size, 1, none⟩ = some (.int .i64 kd) := (hcell 1).trans (by simp)
  have c2 : w1.cell? ⟨w.heap.size, 2, none⟩ = some (.int .i64 key) := (hcell 2).trans (by simp)
  have c3 : w1.cell? ⟨w.heap.size, 3, none⟩ = some (.int .i64 val) := (hcell 3).trans (by simp)
  have c4 : w1.cell? ⟨w.heap.size, 4, none⟩ = some (.int .i64 mx) := (hcell 4).trans (by simp)
  have K1 := Lib.hid (show Kept (fun _ => False) w w1 from (Kept.one_alloc w _).trans k1 (fun _ _ e => e))
  clear k1 hz hcell
  generalize w.heap.size = b at *
  generalize nameB nm = nb at HR ⊢
  cases nb
  · go_wp2_with fail
    go_ret
    exact ⟨by rw [← HR.out]; rfl, K1.out⟩
  · by_cases h1 : 1 ≤ kd ∧ kd ≤ 3
    · obtain ⟨h1, h3⟩ := h1
      go_wp2_with fail
      refine (within_any key 64 _).mono ?_
      rintro e w2 ⟨rfl, rfl⟩
      generalize withinB key 64 = kb at HR ⊢
      cases kb
      · go_wp2_with fail
        go_ret
        exact ⟨by rw [← HR.out]; simp [h1, h3], K1.out⟩
      · by_cases h4 : kd = 1
        · subst h4
          by_cases h5 : key = 4
          · subst h5
            go_wp2_with fail
            refine (within_any val 256 _).mono ?_
            rintro e w2 ⟨rfl, rfl⟩
            generalize withinB val 256 = vb at HR ⊢
            cases vb
            · go_wp2_with fail
              go_ret
              exact ⟨by rw [← HR.out]; rfl, K1.out⟩
            · go_wp2_with fail
              refine (within_any mx 1024 _).mono ?_
              rintro e w2 ⟨rfl, rfl⟩
              generalize withinB mx 1024 = mb at HR ⊢
              cases mb
              all_goals
                go_wp2_with fail
                go_ret
                exact ⟨by rw [← HR.out]; rfl, K1.out⟩
          · have hk4 : (key == 4) = false := beq_eq_false_iff_ne.2 h5
            go_wp2_with fail
            go_ret
            exact ⟨by rw [← HR.out]; simp [h5], K1.out⟩
        · have hkn : (kd != 1) = true := by simpa using h4
          have hke : (kd == 1) = false := beq_eq_false_iff_ne.2 h4
          go_wp2_with fail
          refine (within_any val 256 _).mono ?_
          rintro e w2 ⟨rfl, rfl⟩
          generalize withinB val 256 = vb at HR ⊢
          cases vb
          · go_wp2_with fail
            go_ret
            exact ⟨by rw [← HR.out]; simp, K1.out⟩
          · go_wp2_with fail
            refine (within_any mx 1024 _).mono ?_
            rintro e w2 ⟨rfl, rfl⟩
            generalize withinB mx 1024 = mb at HR ⊢
            cases mb
            all_goals
              go_wp2_with fail
              go_ret
              exact ⟨by rw [← HR.out]; simp [h1, h3, h4], K1.out⟩
    · have hf : (decide (1 ≤ kd) && decide (kd ≤ 3)) = false := by simp; omega
      rw [hf] at HR
      by_cases h1' : 1 ≤ kd
      · have h3 : ¬ kd ≤ 3 := by omega
        go_wp2_with fail
        go_ret
        exact ⟨by rw [← HR.out]; simp, K1.out⟩
      · go_wp2_with fail
        go_ret
        exact ⟨by rw [← HR.out]; simp, K1.out⟩

set_option maxHeartbeats 1000000 in
theorem rname_any (s : ByteArray) (hs : s.size ≤ 9223372036854775807) (w : World) : Calls Tryz.prog 63 #[.string s] w fun e w' => e = .returned (.bool (nameB s)) ∧ w = w' := by
  obtain ⟨R, hR⟩ : ∃ R, nameB s = R := ⟨_, rfl⟩
  rw [hR]
  have HR := Lib.hid hR
  clear hR
  go_enter Tryz.func63, Tryz.ntmps63
  go_wp2
  go_loop [3] (fun i => ∃ k : Nat, k ≤ s.size ∧ i = .int .i64 k ∧ ∀ j, j < k → clsB (s.get! j).toNat = true) (fun i => s.size - (intOf i).toNat)
  case atStart => exact ⟨0, Nat.zero_le _, rfl, fun j hj => by omega⟩
  case round =>
    obtain ⟨k, hk, rfl, hj⟩ := hrel
    have HJ := Lib.hid hj
    clear hj
    by_cases hlt : k < s.size
    · have hg := get_bang s k hlt
      have HG := Lib.hid hg
      have hb := (s[k]).toNat_lt
      clear hg
      by_cases hc : clsB (s[k]).toNat = true
      · have HC := Lib.hid hc
        unfold clsB at hc
        simp only [Bool.or_eq_true, Bool.and_eq_true, decide_eq_true_eq] at hc
        have hj2 : ∀ j, j < k + 1 → clsB (s.get! j).toNat = true := by
          intro j hj
          by_cases e : j = k
          · rw [e, HG.out]; exact HC.out
          · exact HJ.out j (by omega)
        have HJ2 := Lib.hid hj2
        clear hj2
        have hd : ((s[k]).toNat : Int) = 95 ∨ (48 ≤ ((s[k]).toNat : Int) ∧ ((s[k]).toNat : Int) ≤ 57 ∧ ((s[k]).toNat : Int) ≠ 95) ∨ (65 ≤ ((s[k]).toNat : Int) ∧ ((s[k]).toNat : Int) ≤ 90 ∧ ((s[k]).toNat : Int) ≠ 95) ∨ (97 ≤ ((s[k]).toNat : Int) ∧ ((s[k]).toNat : Int) ≤ 122 ∧ ((s[k]).toNat : Int) ≠ 95) := by omega
        clear hc
        rcases hd with hd | ⟨h1, h2, h3⟩ | ⟨h1, h2, h3⟩ | ⟨h1, h2, h3⟩
        case' inl => have hn : (((s[k]).toNat : Int) != 95) = false := (by simp [hd]); have he : (((s[k]).toNat : Int) == 95) = true := (by simp [hd]); clear hd
        case' inr.inl => have hn : (((s[k]).toNat : Int) != 95) = true := (by simp [h3]); have he : (((s[k]).toNat : Int) == 95) = false := (by simp [h3]); clear h3
        case' inr.inr.inl => have hn : (((s[k]).toNat : Int) != 95) = true := (by simp [h3]); have he : (((s[k]).toNat : Int) == 95) = false := (by simp [h3]); clear h3
        case' inr.inr.inr => have hn : (((s[k]).toNat : Int) != 95) = true := (by simp [h3]); have he : (((s[k]).toNat : Int) == 95) = false := (by simp [h3]); clear h3
        all_goals
          go_wp2
          go_round
          case rel => exact ⟨k + 1, by omega, by go_num, HJ2.out⟩
          case measure => simp [intOf]; omega
      · have hd : (((s[k]).toNat : Int) < 48) ∨ (58 ≤ ((s[k]).toNat : Int) ∧ ((s[k]).toNat : Int) ≤ 64) ∨ (91 ≤ ((s[k]).toNat : Int) ∧ ((s[k]).toNat : Int) ≤ 94) ∨ (96 ≤ ((s[k]).toNat : Int) ∧ ((s[k]).toNat : Int) ≤ 96) ∨ (123 ≤ ((s[k]).toNat : Int)) := by
          unfold clsB at hc
          simp only [Bool.or_eq_true, Bool.and_eq_true, decide_eq_true_eq] at hc
          omega
        have hRf : R = false := by
          rw [← HR.out]
          unfold nameB
          have : (s.data.toList.all fun b => clsB b.toNat) = false := by
            cases h : (s.data.toList.all fun b => clsB b.toNat) with
            | false => rfl
            | true =>
              have := (clsAll_iff s).1 h k hlt
              rw [HG.out] at this
              exact (hc this).elim
          rw [this]
          simp
        subst hRf
        have hn : (((s[k]).toNat : Int) != 95) = true := by simp; omega
        have he : (((s[k]).toNat : Int) == 95) = false := by simp; omega
        clear hc
        rcases hd with h1 | ⟨h1, h2⟩ | ⟨h1, h2⟩ | ⟨h1, h2⟩ | h1
        all_goals
          go_wp2
          go_ret
          exact ⟨rfl, rfl⟩
    · obtain rfl : k = s.size := by omega
      have hall : (s.data.toList.all fun b => clsB b.toNat) = true := (clsAll_iff s).2 (fun i hi => HJ.out i hi)
      have hfin : R = (decide (1 ≤ s.size) && decide (s.size ≤ 16)) := by
        rw [← HR.out]
        unfold nameB
        rw [hall]
        simp
      have HF := Lib.hid hfin
      clear hall hfin
      by_cases h1 : 1 ≤ s.size
      · have h1' : (1 : Int) ≤ (s.size : Int) := by omega
        by_cases h2 : s.size ≤ 16
        · have h2' : (s.size : Int) ≤ 16 := by omega
          go_wp2
          go_ret
          exact ⟨by rw [HF.out]; simp [h1, h2], rfl⟩
        · have h2' : ¬ ((s.size : Int) ≤ 16) := by omega
          go_wp2
          go_ret
          exact ⟨by rw [HF.out]; simp [h2], rfl⟩
      · have h1' : ¬ ((1 : Int) ≤ (s.size : Int)) := by omega
        go_wp2
        go_ret
        exact ⟨by rw [HF.out]; simp [h1], rfl⟩

theorem withinB_iff (n m : Int) : withinB n m = true ↔ 1 ≤ n ∧ n ≤ m := by simp [withinB]
theorem rightB_iff (nm : ByteArray) (kd key val mx : Int) : rightB nm kd key val mx = true ↔ nameB nm = true ∧ 1 ≤ kd ∧ kd ≤ 3 ∧ 1 ≤ key ∧ key ≤ 64 ∧ (kd = 1 → key = 4) ∧ 1 ≤ val ∧ val ≤ 256 ∧ 1 ≤ mx ∧ mx ≤ 1024 := by
  unfold rightB
  simp only [Bool.and_eq_true, Bool.or_eq_true, decide_eq_true_eq, withinB_iff]
  constructor
  · rintro ⟨⟨⟨⟨⟨h1, h2, h3⟩, h4, h5⟩, h6⟩, h7, h8⟩, h9, h10⟩
    exact ⟨h1, h2, h3, h4, h5, fun e => by omega, h7, h8, h9, h10⟩
  · rintro ⟨h1, h2, h3, h4, h5, h6, h7, h8, h9, h10⟩
    exact ⟨⟨⟨⟨⟨h1, h2, h3⟩, h4, h5⟩, by omega⟩, h7, h8⟩, h9, h10⟩

set_option maxHeartbeats 2000000 in
theorem rright_any (nm : ByteArray) (hs : nm.size ≤ 9223372036854775807) (kd key val mx : Int) (w : World) :
    Calls Tryz.prog 74 #[.agg #[.string nm, .int .i64 kd, .int .i64 key, .int .i64 val, .int .i64 mx]] w fun e w' => e = .returned (.bool (rightB nm kd key val mx)) ∧ Kept (fun _ => False) w w' := by
  obtain ⟨R, hR⟩ : ∃ R, rightB nm kd key val mx = R := ⟨_, rfl⟩
  rw [hR]
  have hI := rightB_iff nm kd key val mx
  rw [hR] at hI
  have HI := Lib.hid hI
  clear hI hR
  go_enter Tryz.func74, Tryz.ntmps74
  go_wp2_with fail
  refine (rname_any nm hs _).mono ?_
  rintro e w1 ⟨rfl, rfl⟩
  have K1 := Lib.hid (Kept.one_alloc w (.cells #[.string nm, .int .i64 kd, .int .i64 key, .int .i64 val, .int .i64 mx] 35))
  generalize nameB nm = nb at HI ⊢
  have fin : ∀ b : Bool, (R = true ↔ b = true) → (Ending.returned (Value.bool b) = Ending.returned (Value.bool R)) := fun b h => by
    cases R <;> cases b <;> simp_all
  have HF := Lib.hid fin
  clear fin
  cases nb
  · go_wp2_with fail
    go_ret
    exact ⟨HF.out false (by rw [HI.out]; simp), K1.out⟩
  · by_cases h1 : 1 ≤ kd
    · by_cases h2 : kd ≤ 3
      · by_cases h3 : kd = 1
        · subst h3
          by_cases h4 : key = 4
          · subst h4
            go_wp2_with fail
            all_goals
              go_ret
              refine ⟨HF.out _ ?_, K1.out⟩
              rw [HI.out]
              simp <;> omega
          · have hk : (key != 4) = true := by simpa using h4
            have hk2 : (key == 4) = false := beq_eq_false_iff_ne.2 h4
            go_wp2_with fail
            go_ret
            exact ⟨HF.out false (by rw [HI.out]; simp [h4]), K1.out⟩
        · have hk2 : (kd == 1) = false := beq_eq_false_iff_ne.2 h3
          have hk3 : (kd = 1) = False := by simp [h3]
          go_wp2_with fail
          all_goals
            go_ret
            refine ⟨HF.out _ ?_, K1.out⟩
            rw [HI.out]
            simp [h1, h2, h3] <;> omega
      · go_wp2_with fail
        go_ret
        exact ⟨HF.out false (by rw [HI.out]; exact ⟨fun ⟨_, a1, a2, _⟩ => by omega, fun h => by cases h⟩), K1.out⟩
    · go_wp2_with fail
      go_ret
      exact ⟨HF.out false (by rw [HI.out]; exact ⟨fun ⟨_, a1, a2, _⟩ => by omega, fun h => by cases h⟩), K1.out⟩
end Go.Proofs.YtdkcnigghcbnpaaGreat
