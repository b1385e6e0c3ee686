/- LruFew, walked: for any most, any keys, it answers true. -/
import Derived.Test.YteiilokhkpaoeaaLruSB
import Derived.Test.YteiilokhkpaoeaaShown9
import Derived.Test.YteiilokhkpaoeaaTexts
namespace Go.Proofs.Yteiilokhkpaoeaa
set_option linter.unusedVariables false
set_option linter.unusedSimpArgs false
open Go.RowKit Go.MapKept

theorem mem_b {w0 : Nat} {l1 l2 : List (Ent ByteArray Bool)} {x : Ent ByteArray Bool} {v : Bool} (h : ∀ y ∈ l1 ++ x :: l2, w0 ≤ y.b) : ∀ y ∈ l1 ++ l2 ++ [{ x with v := v }], w0 ≤ y.b := by
  intro y hy
  have h1 := h x (by simp)
  grind

set_option maxRecDepth 100000 in
set_option maxHeartbeats 2000000 in
theorem few_low (m : Int) (h1 : m < 1) (a : Option Addr) (n c : Nat) (ss : Nat → ByteArray) (w : World) (hs : Texts w a n ss) (hn : n ≤ 9223372036854775807) :
    Calls Try.prog 3 #[.int .i64 m, .slice a n c] w fun e w' => e = .returned (.bool true) ∧ Kept (fun _ => False) w w' := by
  have HS := Lib.hid hs
  clear hs
  go_enter Try.func3, Try.ntmps3
  go_wp2_with fail
  refine (shown9 w).mono ?_
  rintro e w0 ⟨rfl, k0⟩
  go_wp2_with fail
  refine (SB.new_own _ w0).mono ?_
  rintro e w1 ⟨bl, bm, rfl, hL, k1, gl, gm⟩
  rw [show max (m : Int) 1 = 1 by omega] at hL
  have k1 : Kept (fun b => w.heap.size ≤ b) w w1 := (k0.mono (S' := fun b => w.heap.size ≤ b) (fun _ _ e => e.elim)).trans k1 (fun b hb e => by have := k0.size; omega)
  have gl : w.heap.size ≤ bl := by have := k0.size; omega
  have gm : w.heap.size ≤ bm := by have := k0.size; omega
  clear k0
  go_wp2_with fail
  go_loopw [8] (fun i wr => ∃ (k : Nat) (xs : List (Ent ByteArray Bool)), k ≤ n ∧ i = .int .i64 k ∧ SB.L wr bl bm 1 xs ∧ (xs.length : Int) ≤ 1 ∧ (∀ x ∈ xs, w.heap.size ≤ x.b) ∧ Kept (fun b => w.heap.size ≤ b) w wr) (fun i _ => n - (intOf i).toNat)
  case atStart => exact ⟨0, [], Nat.zero_le _, rfl, hL, by simp <;> omega, by simp, k1⟩
  case round =>
    obtain ⟨k, xs, hk, rfl, hx, hlen, hge, hkr⟩ := hrel
    by_cases hlt : k < n ∧ k < 60
    · obtain ⟨hlt, h60⟩ := hlt
      obtain ⟨b, o, rfl, hb, hc⟩ := HS.out k hlt
      have hcell : wr.cell? ⟨b, o + k, none⟩ = some (.string (ss k)) := (hkr.cell (p := ⟨b, o + k, none⟩) hb (by simp; omega)).trans hc
      generalize ss k = key at hcell
      clear hc
      rcases split_key hx.keys key with ⟨_, e2, _⟩ | ⟨l1, x, l2, rfl, rfl, _, _⟩
      · by_cases hroom : (xs.length : Int) + 1 ≤ 1
        · have hfull : ((xs.length : Int) == 1) = false := by rw [beq_eq_false_iff_ne]; omega
          go_wp2_with fail
          refine (SB.peek_miss hx e2).mono ?_
          rintro e w2 ⟨rfl, rfl⟩
          go_wp2_with fail
          refine (SB.oldest_any hx).mono ?_
          rintro e w2 ⟨rfl, t2⟩
          have hx2 := hx.twin t2
          have hk2 := hkr.twin t2
          have hcell2 := (hk2.cell (p := ⟨b, o + k, none⟩) hb (by simp; omega)).trans ((hkr.cell (p := ⟨b, o + k, none⟩) hb (by simp; omega)).symm.trans hcell)
          clear t2
          go_wp2_with fail
          refine (SB.len_any hx2).mono ?_
          rintro e w3 ⟨rfl, rfl⟩
          go_wp2_with fail
          refine (SB.put_room hx2 e2 hroom).mono ?_
          rintro e w3 ⟨rfl, h3, k3, z3⟩
          have hk3 := hk2.own k3 (fp_ge gl gm hge)
          have hge3 : ∀ y ∈ xs ++ [⟨w2.heap.size, key, true⟩], w.heap.size ≤ y.b := by
            have := hk2.size
            intro y hy
            rcases List.mem_append.1 hy with hy | hy
            · exact hge y hy
            · rw [List.mem_singleton.1 hy]; exact this
          clear z3 hx2 hx hcell2 k3
          generalize w2.heap.size = nb at h3 hge3
          go_wp2_with fail
          refine (SB.len_any h3).mono ?_
          rintro e w4 ⟨rfl, rfl⟩
          rw [show ((xs ++ [(⟨nb, key, true⟩ : Ent ByteArray Bool)]).length : Int) = (xs.length : Int) + 1 by simp]
          go_wp2_with fail
          refine (SB.len_any h3).mono ?_
          rintro e w4 ⟨rfl, rfl⟩
          rw [show ((xs ++ [(⟨nb, key, true⟩ : Ent ByteArray Bool)]).length : Int) = (xs.length : Int) + 1 by simp]
          have hcell3 : w3.cell? ⟨b, o + k, none⟩ = some (.string key) := (hk3.cell (p := ⟨b, o + k, none⟩) hb (by simp; omega)).trans ((hkr.cell (p := ⟨b, o + k, none⟩) hb (by simp; omega)).symm.trans hcell)
          go_wp2_with fail
          refine (SB.peek_hit h3 (x := ⟨nb, key, true⟩) (by simp)).mono ?_
          rintro e w4 ⟨rfl, rfl⟩
          go_wp2_with fail
          go_roundw
          case rel => exact ⟨k + 1, _, by omega, by go_num, h3, by simp <;> omega, hge3, hk3⟩
          case measure => simp [intOf]; omega
        · obtain ⟨x, ys, rfl⟩ : ∃ x ys, xs = x :: ys := by
            cases xs with
            | nil => simp at hroom <;> omega
            | cons x ys => exact ⟨x, ys, rfl⟩
          have hN : (ys.length : Int) + 1 = 1 := by simp at hroom hlen <;> omega
          have HN := Lib.hid hN
          clear hN
          go_wp2_with fail
          refine (SB.peek_miss hx e2).mono ?_
          rintro e w2 ⟨rfl, rfl⟩
          go_wp2_with fail
          refine (SB.oldest_cons hx).mono ?_
          rintro e w2 ⟨rfl, t2⟩
          have hx2 := hx.twin t2
          have hk2 := hkr.twin t2
          have hcell2 := (hk2.cell (p := ⟨b, o + k, none⟩) hb (by simp; omega)).trans ((hkr.cell (p := ⟨b, o + k, none⟩) hb (by simp; omega)).symm.trans hcell)
          clear t2
          go_wp2_with fail
          refine (SB.len_any hx2).mono ?_
          rintro e w3 ⟨rfl, rfl⟩
          rw [show ((x :: ys).length : Int) = 1 by simpa using HN.out]
          go_wp2_with fail
          refine (SB.put_full hx2 e2 (by have := HN.out; omega)).mono ?_
          rintro e w3 ⟨rfl, h3, k3, z3⟩
          have hk3 := hk2.own k3 (fp_ge gl gm hge)
          have hge3 : ∀ y ∈ ys ++ [⟨w2.heap.size, key, true⟩], w.heap.size ≤ y.b := by
            have := hk2.size
            intro y hy
            rcases List.mem_append.1 hy with hy | hy
            · exact hge y (.tail _ hy)
            · rw [List.mem_singleton.1 hy]; exact this
          clear z3 hx2 hx hcell2 k3
          generalize w2.heap.size = nb at h3 hge3
          go_wp2_with fail
          refine (SB.len_any h3).mono ?_
          rintro e w4 ⟨rfl, rfl⟩
          rw [show ((ys ++ [(⟨nb, key, true⟩ : Ent ByteArray Bool)]).length : Int) = 1 by simpa using HN.out]
          have hcell3 : w3.cell? ⟨b, o + k, none⟩ = some (.string key) := (hk3.cell (p := ⟨b, o + k, none⟩) hb (by simp; omega)).trans ((hkr.cell (p := ⟨b, o + k, none⟩) hb (by simp; omega)).symm.trans hcell)
          go_wp2_with fail
          refine (SB.peek_hit h3 (x := ⟨nb, key, true⟩) (by simp)).mono ?_
          rintro e w4 ⟨rfl, rfl⟩
          go_wp2_with fail
          go_roundw
          case rel => exact ⟨k + 1, _, by omega, by go_num, h3, by have := HN.out; simp <;> omega, hge3, hk3⟩
          case measure => simp [intOf]; omega
      · go_wp2_with fail
        refine (SB.peek_hit hx (x := x) (by simp)).mono ?_
        rintro e w2 ⟨rfl, rfl⟩
        go_wp2_with fail
        refine (SB.oldest_any hx).mono ?_
        rintro e w2 ⟨rfl, t2⟩
        have hx2 := hx.twin t2
        have hk2 := hkr.twin t2
        have hcell2 := (hk2.cell (p := ⟨b, o + k, none⟩) hb (by simp; omega)).trans ((hkr.cell (p := ⟨b, o + k, none⟩) hb (by simp; omega)).symm.trans hcell)
        clear t2
        go_wp2_with fail
        refine (SB.len_any hx2).mono ?_
        rintro e w3 ⟨rfl, rfl⟩
        generalize hN : ((l1 ++ x :: l2).length : Int) = N at hlen ⊢
        have HN := Lib.hid hN
        clear hN
        go_wp2_with fail
        refine (SB.put_hit hx2).mono ?_
        rintro e w3 ⟨rfl, h3, k3, z3⟩
        have hk3 := hk2.own k3 (fp_ge gl gm hge)
        have hge3 := mem_b (v := true) hge
        clear z3 hx2 hx hcell2 k3
        go_wp2_with fail
        refine (SB.len_any h3).mono ?_
        rintro e w4 ⟨rfl, rfl⟩
        have hM : ((l1 ++ l2 ++ [{ x with v := true }]).length : Int) = N := by rw [← HN.out]; simp <;> omega
        rw [hM]
        have HM := Lib.hid hM
        clear hM
        have hcell3 : w3.cell? ⟨b, o + k, none⟩ = some (.string x.k) := (hk3.cell (p := ⟨b, o + k, none⟩) hb (by simp; omega)).trans ((hkr.cell (p := ⟨b, o + k, none⟩) hb (by simp; omega)).symm.trans hcell)
        go_wp2_with fail
        refine (SB.peek_hit h3 (x := { x with v := true }) (by simp)).mono ?_
        rintro e w4 ⟨rfl, rfl⟩
        go_wp2_with fail
        go_roundw
        case rel => exact ⟨k + 1, _, by omega, by go_num, h3, by rw [HM.out]; exact hlen, hge3, hk3⟩
        case measure => simp [intOf]; omega
    · by_cases hlt1 : k < n
      · have h60 : ¬ k < 60 := fun h => hlt ⟨hlt1, h⟩
        go_wp2_with fail
        go_ret
        exact ⟨rfl, hkr.none⟩
      · go_wp2_with fail
        go_ret
        exact ⟨rfl, hkr.none⟩

set_option maxRecDepth 100000 in
set_option maxHeartbeats 2000000 in
theorem few_mid (room : Int) (h1 : 1 ≤ room) (h2 : room ≤ 40) (a : Option Addr) (n c : Nat) (ss : Nat → ByteArray) (w : World) (hs : Texts w a n ss) (hn : n ≤ 9223372036854775807) :
    Calls Try.prog 3 #[.int .i64 room, .slice a n c] w fun e w' => e = .returned (.bool true) ∧ Kept (fun _ => False) w w' := by
  have HS := Lib.hid hs
  clear hs
  go_enter Try.func3, Try.ntmps3
  go_wp2_with fail
  refine (shown9 w).mono ?_
  rintro e w0 ⟨rfl, k0⟩
  go_wp2_with fail
  refine (SB.new_own _ w0).mono ?_
  rintro e w1 ⟨bl, bm, rfl, hL, k1, gl, gm⟩
  rw [show max (room : Int) 1 = room by omega] at hL
  have k1 : Kept (fun b => w.heap.size ≤ b) w w1 := (k0.mono (S' := fun b => w.heap.size ≤ b) (fun _ _ e => e.elim)).trans k1 (fun b hb e => by have := k0.size; omega)
  have gl : w.heap.size ≤ bl := by have := k0.size; omega
  have gm : w.heap.size ≤ bm := by have := k0.size; omega
  clear k0
  go_wp2_with fail
  go_loopw [8] (fun i wr => ∃ (k : Nat) (xs : List (Ent ByteArray Bool)), k ≤ n ∧ i = .int .i64 k ∧ SB.L wr bl bm room xs ∧ (xs.length : Int) ≤ room ∧ (∀ x ∈ xs, w.heap.size ≤ x.b) ∧ Kept (fun b => w.heap.size ≤ b) w wr) (fun i _ => n - (intOf i).toNat)
  case atStart => exact ⟨0, [], Nat.zero_le _, rfl, hL, by simp <;> omega, by simp, k1⟩
  case round =>
    obtain ⟨k, xs, hk, rfl, hx, hlen, hge, hkr⟩ := hrel
    by_cases hlt : k < n ∧ k < 60
    · obtain ⟨hlt, h60⟩ := hlt
      obtain ⟨b, o, rfl, hb, hc⟩ := HS.out k hlt
      have hcell : wr.cell? ⟨b, o + k, none⟩ = some (.string (ss k)) := (hkr.cell (p := ⟨b, o + k, none⟩) hb (by simp; omega)).trans hc
      generalize ss k = key at hcell
      clear hc
      rcases split_key hx.keys key with ⟨_, e2, _⟩ | ⟨l1, x, l2, rfl, rfl, _, _⟩
      · by_cases hroom : (xs.length : Int) + 1 ≤ room
        · have hfull : ((xs.length : Int) == room) = false := by rw [beq_eq_false_iff_ne]; omega
          go_wp2_with fail
          refine (SB.peek_miss hx e2).mono ?_
          rintro e w2 ⟨rfl, rfl⟩
          go_wp2_with fail
          refine (SB.oldest_any hx).mono ?_
          rintro e w2 ⟨rfl, t2⟩
          have hx2 := hx.twin t2
          have hk2 := hkr.twin t2
          have hcell2 := (hk2.cell (p := ⟨b, o + k, none⟩) hb (by simp; omega)).trans ((hkr.cell (p := ⟨b, o + k, none⟩) hb (by simp; omega)).symm.trans hcell)
          clear t2
          go_wp2_with fail
          refine (SB.len_any hx2).mono ?_
          rintro e w3 ⟨rfl, rfl⟩
          go_wp2_with fail
          refine (SB.put_room hx2 e2 hroom).mono ?_
          rintro e w3 ⟨rfl, h3, k3, z3⟩
          have hk3 := hk2.own k3 (fp_ge gl gm hge)
          have hge3 : ∀ y ∈ xs ++ [⟨w2.heap.size, key, true⟩], w.heap.size ≤ y.b := by
            have := hk2.size
            intro y hy
            rcases List.mem_append.1 hy with hy | hy
            · exact hge y hy
            · rw [List.mem_singleton.1 hy]; exact this
          clear z3 hx2 hx hcell2 k3
          generalize w2.heap.size = nb at h3 hge3
          go_wp2_with fail
          refine (SB.len_any h3).mono ?_
          rintro e w4 ⟨rfl, rfl⟩
          rw [show ((xs ++ [(⟨nb, key, true⟩ : Ent ByteArray Bool)]).length : Int) = (xs.length : Int) + 1 by simp]
          go_wp2_with fail
          refine (SB.len_any h3).mono ?_
          rintro e w4 ⟨rfl, rfl⟩
          rw [show ((xs ++ [(⟨nb, key, true⟩ : Ent ByteArray Bool)]).length : Int) = (xs.length : Int) + 1 by simp]
          have hcell3 : w3.cell? ⟨b, o + k, none⟩ = some (.string key) := (hk3.cell (p := ⟨b, o + k, none⟩) hb (by simp; omega)).trans ((hkr.cell (p := ⟨b, o + k, none⟩) hb (by simp; omega)).symm.trans hcell)
          go_wp2_with fail
          refine (SB.peek_hit h3 (x := ⟨nb, key, true⟩) (by simp)).mono ?_
          rintro e w4 ⟨rfl, rfl⟩
          go_wp2_with fail
          go_roundw
          case rel => exact ⟨k + 1, _, by omega, by go_num, h3, by simp <;> omega, hge3, hk3⟩
          case measure => simp [intOf]; omega
        · obtain ⟨x, ys, rfl⟩ : ∃ x ys, xs = x :: ys := by
            cases xs with
            | nil => simp at hroom <;> omega
            | cons x ys => exact ⟨x, ys, rfl⟩
          have hN : (ys.length : Int) + 1 = room := by simp at hroom hlen <;> omega
          have HN := Lib.hid hN
          clear hN
          go_wp2_with fail
          refine (SB.peek_miss hx e2).mono ?_
          rintro e w2 ⟨rfl, rfl⟩
          go_wp2_with fail
          refine (SB.oldest_cons hx).mono ?_
          rintro e w2 ⟨rfl, t2⟩
          have hx2 := hx.twin t2
          have hk2 := hkr.twin t2
          have hcell2 := (hk2.cell (p := ⟨b, o + k, none⟩) hb (by simp; omega)).trans ((hkr.cell (p := ⟨b, o + k, none⟩) hb (by simp; omega)).symm.trans hcell)
          clear t2
          go_wp2_with fail
          refine (SB.len_any hx2).mono ?_
          rintro e w3 ⟨rfl, rfl⟩
          rw [show ((x :: ys).length : Int) = room by simpa using HN.out]
          go_wp2_with fail
          refine (SB.put_full hx2 e2 (by have := HN.out; omega)).mono ?_
          rintro e w3 ⟨rfl, h3, k3, z3⟩
          have hk3 := hk2.own k3 (fp_ge gl gm hge)
          have hge3 : ∀ y ∈ ys ++ [⟨w2.heap.size, key, true⟩], w.heap.size ≤ y.b := by
            have := hk2.size
            intro y hy
            rcases List.mem_append.1 hy with hy | hy
            · exact hge y (.tail _ hy)
            · rw [List.mem_singleton.1 hy]; exact this
          clear z3 hx2 hx hcell2 k3
          generalize w2.heap.size = nb at h3 hge3
          go_wp2_with fail
          refine (SB.len_any h3).mono ?_
          rintro e w4 ⟨rfl, rfl⟩
          rw [show ((ys ++ [(⟨nb, key, true⟩ : Ent ByteArray Bool)]).length : Int) = room by simpa using HN.out]
          have hcell3 : w3.cell? ⟨b, o + k, none⟩ = some (.string key) := (hk3.cell (p := ⟨b, o + k, none⟩) hb (by simp; omega)).trans ((hkr.cell (p := ⟨b, o + k, none⟩) hb (by simp; omega)).symm.trans hcell)
          go_wp2_with fail
          refine (SB.peek_hit h3 (x := ⟨nb, key, true⟩) (by simp)).mono ?_
          rintro e w4 ⟨rfl, rfl⟩
          go_wp2_with fail
          go_roundw
          case rel => exact ⟨k + 1, _, by omega, by go_num, h3, by have := HN.out; simp <;> omega, hge3, hk3⟩
          case measure => simp [intOf]; omega
      · go_wp2_with fail
        refine (SB.peek_hit hx (x := x) (by simp)).mono ?_
        rintro e w2 ⟨rfl, rfl⟩
        go_wp2_with fail
        refine (SB.oldest_any hx).mono ?_
        rintro e w2 ⟨rfl, t2⟩
        have hx2 := hx.twin t2
        have hk2 := hkr.twin t2
        have hcell2 := (hk2.cell (p := ⟨b, o + k, none⟩) hb (by simp; omega)).trans ((hkr.cell (p := ⟨b, o + k, none⟩) hb (by simp; omega)).symm.trans hcell)
        clear t2
        go_wp2_with fail
        refine (SB.len_any hx2).mono ?_
        rintro e w3 ⟨rfl, rfl⟩
        generalize hN : ((l1 ++ x :: l2).length : Int) = N at hlen ⊢
        have HN := Lib.hid hN
        clear hN
        go_wp2_with fail
        refine (SB.put_hit hx2).mono ?_
        rintro e w3 ⟨rfl, h3, k3, z3⟩
        have hk3 := hk2.own k3 (fp_ge gl gm hge)
        have hge3 := mem_b (v := true) hge
        clear z3 hx2 hx hcell2 k3
        go_wp2_with fail
        refine (SB.len_any h3).mono ?_
        rintro e w4 ⟨rfl, rfl⟩
        have hM : ((l1 ++ l2 ++ [{ x with v := true }]).length : Int) = N := by rw [← HN.out]; simp <;> omega
        rw [hM]
        have HM := Lib.hid hM
        clear hM
        have hcell3 : w3.cell? ⟨b, o + k, none⟩ = some (.string x.k) := (hk3.cell (p := ⟨b, o + k, none⟩) hb (by simp; omega)).trans ((hkr.cell (p := ⟨b, o + k, none⟩) hb (by simp; omega)).symm.trans hcell)
        go_wp2_with fail
        refine (SB.peek_hit h3 (x := { x with v := true }) (by simp)).mono ?_
        rintro e w4 ⟨rfl, rfl⟩
        go_wp2_with fail
        go_roundw
        case rel => exact ⟨k + 1, _, by omega, by go_num, h3, by rw [HM.out]; exact hlen, hge3, hk3⟩
        case measure => simp [intOf]; omega
    · by_cases hlt1 : k < n
      · have h60 : ¬ k < 60 := fun h => hlt ⟨hlt1, h⟩
        go_wp2_with fail
        go_ret
        exact ⟨rfl, hkr.none⟩
      · go_wp2_with fail
        go_ret
        exact ⟨rfl, hkr.none⟩

set_option maxRecDepth 100000 in
set_option maxHeartbeats 2000000 in
theorem few_high (m : Int) (h1 : 40 < m) (a : Option Addr) (n c : Nat) (ss : Nat → ByteArray) (w : World) (hs : Texts w a n ss) (hn : n ≤ 9223372036854775807) :
    Calls Try.prog 3 #[.int .i64 m, .slice a n c] w fun e w' => e = .returned (.bool true) ∧ Kept (fun _ => False) w w' := by
  have HS := Lib.hid hs
  clear hs
  go_enter Try.func3, Try.ntmps3
  go_wp2_with fail
  refine (shown9 w).mono ?_
  rintro e w0 ⟨rfl, k0⟩
  go_wp2_with fail
  refine (SB.new_own _ w0).mono ?_
  rintro e w1 ⟨bl, bm, rfl, hL, k1, gl, gm⟩
  rw [show max (40 : Int) 1 = 40 by omega] at hL
  have k1 : Kept (fun b => w.heap.size ≤ b) w w1 := (k0.mono (S' := fun b => w.heap.size ≤ b) (fun _ _ e => e.elim)).trans k1 (fun b hb e => by have := k0.size; omega)
  have gl : w.heap.size ≤ bl := by have := k0.size; omega
  have gm : w.heap.size ≤ bm := by have := k0.size; omega
  clear k0
  go_wp2_with fail
  go_loopw [8] (fun i wr => ∃ (k : Nat) (xs : List (Ent ByteArray Bool)), k ≤ n ∧ i = .int .i64 k ∧ SB.L wr bl bm 40 xs ∧ (xs.length : Int) ≤ 40 ∧ (∀ x ∈ xs, w.heap.size ≤ x.b) ∧ Kept (fun b => w.heap.size ≤ b) w wr) (fun i _ => n - (intOf i).toNat)
  case atStart => exact ⟨0, [], Nat.zero_le _, rfl, hL, by simp <;> omega, by simp, k1⟩
  case round =>
    obtain ⟨k, xs, hk, rfl, hx, hlen, hge, hkr⟩ := hrel
    by_cases hlt : k < n ∧ k < 60
    · obtain ⟨hlt, h60⟩ := hlt
      obtain ⟨b, o, rfl, hb, hc⟩ := HS.out k hlt
      have hcell : wr.cell? ⟨b, o + k, none⟩ = some (.string (ss k)) := (hkr.cell (p := ⟨b, o + k, none⟩) hb (by simp; omega)).trans hc
      generalize ss k = key at hcell
      clear hc
      rcases split_key hx.keys key with ⟨_, e2, _⟩ | ⟨l1, x, l2, rfl, rfl, _, _⟩
      · by_cases hroom : (xs.length : Int) + 1 ≤ 40
        · have hfull : ((xs.length : Int) == 40) = false := by rw [beq_eq_false_iff_ne]; omega
          go_wp2_with fail
          refine (SB.peek_miss hx e2).mono ?_
          rintro e w2 ⟨rfl, rfl⟩
          go_wp2_with fail
          refine (SB.oldest_any hx).mono ?_
          rintro e w2 ⟨rfl, t2⟩
          have hx2 := hx.twin t2
          have hk2 := hkr.twin t2
          have hcell2 := (hk2.cell (p := ⟨b, o + k, none⟩) hb (by simp; omega)).trans ((hkr.cell (p := ⟨b, o + k, none⟩) hb (by simp; omega)).symm.trans hcell)
          clear t2
          go_wp2_with fail
          refine (SB.len_any hx2).mono ?_
          rintro e w3 ⟨rfl, rfl⟩
          go_wp2_with fail
          refine (SB.put_room hx2 e2 hroom).mono ?_
          rintro e w3 ⟨rfl, h3, k3, z3⟩
          have hk3 := hk2.own k3 (fp_ge gl gm hge)
          have hge3 : ∀ y ∈ xs ++ [⟨w2.heap.size, key, true⟩], w.heap.size ≤ y.b := by
            have := hk2.size
            intro y hy
            rcases List.mem_append.1 hy with hy | hy
            · exact hge y hy
            · rw [List.mem_singleton.1 hy]; exact this
          clear z3 hx2 hx hcell2 k3
          generalize w2.heap.size = nb at h3 hge3
          go_wp2_with fail
          refine (SB.len_any h3).mono ?_
          rintro e w4 ⟨rfl, rfl⟩
          rw [show ((xs ++ [(⟨nb, key, true⟩ : Ent ByteArray Bool)]).length : Int) = (xs.length : Int) + 1 by simp]
          go_wp2_with fail
          refine (SB.len_any h3).mono ?_
          rintro e w4 ⟨rfl, rfl⟩
          rw [show ((xs ++ [(⟨nb, key, true⟩ : Ent ByteArray Bool)]).length : Int) = (xs.length : Int) + 1 by simp]
          have hcell3 : w3.cell? ⟨b, o + k, none⟩ = some (.string key) := (hk3.cell (p := ⟨b, o + k, none⟩) hb (by simp; omega)).trans ((hkr.cell (p := ⟨b, o + k, none⟩) hb (by simp; omega)).symm.trans hcell)
          go_wp2_with fail
          refine (SB.peek_hit h3 (x := ⟨nb, key, true⟩) (by simp)).mono ?_
          rintro e w4 ⟨rfl, rfl⟩
          go_wp2_with fail
          go_roundw
          case rel => exact ⟨k + 1, _, by omega, by go_num, h3, by simp <;> omega, hge3, hk3⟩
          case measure => simp [intOf]; omega
        · obtain ⟨x, ys, rfl⟩ : ∃ x ys, xs = x :: ys := by
            cases xs with
            | nil => simp at hroom <;> omega
            | cons x ys => exact ⟨x, ys, rfl⟩
          have hN : (ys.length : Int) + 1 = 40 := by simp at hroom hlen <;> omega
          have HN := Lib.hid hN
          clear hN
          go_wp2_with fail
          refine (SB.peek_miss hx e2).mono ?_
          rintro e w2 ⟨rfl, rfl⟩
          go_wp2_with fail
          refine (SB.oldest_cons hx).mono ?_
          rintro e w2 ⟨rfl, t2⟩
          have hx2 := hx.twin t2
          have hk2 := hkr.twin t2
          have hcell2 := (hk2.cell (p := ⟨b, o + k, none⟩) hb (by simp; omega)).trans ((hkr.cell (p := ⟨b, o + k, none⟩) hb (by simp; omega)).symm.trans hcell)
          clear t2
          go_wp2_with fail
          refine (SB.len_any hx2).mono ?_
          rintro e w3 ⟨rfl, rfl⟩
          rw [show ((x :: ys).length : Int) = 40 by simpa using HN.out]
          go_wp2_with fail
          refine (SB.put_full hx2 e2 (by have := HN.out; omega)).mono ?_
          rintro e w3 ⟨rfl, h3, k3, z3⟩
          have hk3 := hk2.own k3 (fp_ge gl gm hge)
          have hge3 : ∀ y ∈ ys ++ [⟨w2.heap.size, key, true⟩], w.heap.size ≤ y.b := by
            have := hk2.size
            intro y hy
            rcases List.mem_append.1 hy with hy | hy
            · exact hge y (.tail _ hy)
            · rw [List.mem_singleton.1 hy]; exact this
          clear z3 hx2 hx hcell2 k3
          generalize w2.heap.size = nb at h3 hge3
          go_wp2_with fail
          refine (SB.len_any h3).mono ?_
          rintro e w4 ⟨rfl, rfl⟩
          rw [show ((ys ++ [(⟨nb, key, true⟩ : Ent ByteArray Bool)]).length : Int) = 40 by simpa using HN.out]
          have hcell3 : w3.cell? ⟨b, o + k, none⟩ = some (.string key) := (hk3.cell (p := ⟨b, o + k, none⟩) hb (by simp; omega)).trans ((hkr.cell (p := ⟨b, o + k, none⟩) hb (by simp; omega)).symm.trans hcell)
          go_wp2_with fail
          refine (SB.peek_hit h3 (x := ⟨nb, key, true⟩) (by simp)).mono ?_
          rintro e w4 ⟨rfl, rfl⟩
          go_wp2_with fail
          go_roundw
          case rel => exact ⟨k + 1, _, by omega, by go_num, h3, by have := HN.out; simp <;> omega, hge3, hk3⟩
          case measure => simp [intOf]; omega
      · go_wp2_with fail
        refine (SB.peek_hit hx (x := x) (by simp)).mono ?_
        rintro e w2 ⟨rfl, rfl⟩
        go_wp2_with fail
        refine (SB.oldest_any hx).mono ?_
        rintro e w2 ⟨rfl, t2⟩
        have hx2 := hx.twin t2
        have hk2 := hkr.twin t2
        have hcell2 := (hk2.cell (p := ⟨b, o + k, none⟩) hb (by simp; omega)).trans ((hkr.cell (p := ⟨b, o + k, none⟩) hb (by simp; omega)).symm.trans hcell)
        clear t2
        go_wp2_with fail
        refine (SB.len_any hx2).mono ?_
        rintro e w3 ⟨rfl, rfl⟩
        generalize hN : ((l1 ++ x :: l2).length : Int) = N at hlen ⊢
        have HN := Lib.hid hN
        clear hN
        go_wp2_with fail
        refine (SB.put_hit hx2).mono ?_
        rintro e w3 ⟨rfl, h3, k3, z3⟩
        have hk3 := hk2.own k3 (fp_ge gl gm hge)
        have hge3 := mem_b (v := true) hge
        clear z3 hx2 hx hcell2 k3
        go_wp2_with fail
        refine (SB.len_any h3).mono ?_
        rintro e w4 ⟨rfl, rfl⟩
        have hM : ((l1 ++ l2 ++ [{ x with v := true }]).length : Int) = N := by rw [← HN.out]; simp <;> omega
        rw [hM]
        have HM := Lib.hid hM
        clear hM
        have hcell3 : w3.cell? ⟨b, o + k, none⟩ = some (.string x.k) := (hk3.cell (p := ⟨b, o + k, none⟩) hb (by simp; omega)).trans ((hkr.cell (p := ⟨b, o + k, none⟩) hb (by simp; omega)).symm.trans hcell)
        go_wp2_with fail
        refine (SB.peek_hit h3 (x := { x with v := true }) (by simp)).mono ?_
        rintro e w4 ⟨rfl, rfl⟩
        go_wp2_with fail
        go_roundw
        case rel => exact ⟨k + 1, _, by omega, by go_num, h3, by rw [HM.out]; exact hlen, hge3, hk3⟩
        case measure => simp [intOf]; omega
    · by_cases hlt1 : k < n
      · have h60 : ¬ k < 60 := fun h => hlt ⟨hlt1, h⟩
        go_wp2_with fail
        go_ret
        exact ⟨rfl, hkr.none⟩
      · go_wp2_with fail
        go_ret
        exact ⟨rfl, hkr.none⟩

theorem few_any (most : Int) (a : Option Addr) (n c : Nat) (ss : Nat → ByteArray) (w : World) (hs : Texts w a n ss) (hn : n ≤ 9223372036854775807) :
    Calls Try.prog 3 #[.int .i64 most, .slice a n c] w fun e w' => e = .returned (.bool true) ∧ Kept (fun _ => False) w w' := by
  by_cases h1 : most < 1
  · exact few_low most h1 a n c ss w hs hn
  · by_cases h2 : most ≤ 40
    · exact few_mid most (by omega) h2 a n c ss w hs hn
    · exact few_high most (by omega) a n c ss w hs hn
end Go.Proofs.Yteiilokhkpaoeaa
