/- LruNewest, walked: for any numbers it answers true. -/
import Derived.Test.YteiilokhkpaoeaaLruIB
import Derived.Test.YteiilokhkpaoeaaShown9
import Derived.Test.YteiilokhkpaoeaaNum
namespace Go.Proofs.Yteiilokhkpaoeaa
set_option linter.unusedVariables false
set_option linter.unusedSimpArgs false
open Go.RowKit Go.MapKept

/-- Who goes as the i-th one. -/
def ordI (N X i : Nat) : Int := if i + 1 = N then (X : Int) else if X ≤ i then (i : Int) + 1 else i
theorem range_filter (X : Nat) : ∀ N, (List.range N).filter (fun i => decide (i ≠ X)) = (List.range (if X < N then N - 1 else N)).map fun i => if X ≤ i then i + 1 else i := by
  intro N
  induction N with
  | zero => simp
  | succ N ih =>
    rw [List.range_succ, List.filter_append, ih]
    by_cases h1 : X < N
    · rw [if_pos h1, if_pos (by omega)]
      have : N - 1 + 1 = N := by omega
      rw [show N + 1 - 1 = (N - 1) + 1 by omega, List.range_succ, List.map_append]
      have h2 : N ≠ X := by omega
      simp [h2, this]
      omega
    · rw [if_neg h1]
      by_cases h2 : N = X
      · subst h2
        simp
      · rw [if_neg (by omega), List.range_succ, List.map_append]
        have h3 : ¬ X ≤ N := by omega
        simp [h2, h3]

theorem ord_list (N X : Nat) (h : X < N) : ((List.range N).map Int.ofNat).filter (fun i => decide (i ≠ (X : Int))) ++ [(X : Int)] = (List.range N).map (ordI N X) := by
  rw [List.filter_map]
  have e : (fun (i : Int) => decide (i ≠ (X : Int))) ∘ Int.ofNat = fun i : Nat => decide (i ≠ X) := by
    funext i
    simp
    omega
  rw [e, range_filter, if_pos h]
  obtain ⟨M, rfl⟩ : ∃ M, N = M + 1 := ⟨N - 1, by omega⟩
  rw [List.range_succ, List.map_append, Nat.add_sub_cancel, List.map_map]
  congr 1
  · apply List.map_congr_left
    intro i hi
    have hi := List.mem_range.1 hi
    unfold ordI
    rw [if_neg (by omega)]
    simp only [Function.comp]
    split <;> simp
  · simp [ordI]

/-- The keys behind i rounds. -/
def keysI (N X i : Nat) : List Int := ((List.range N).map (ordI N X)).drop i ++ (List.range i).map fun (j : Nat) => 1000 + (j : Int)
theorem keysI_next (N X i : Nat) (h : i < N) : keysI N X i = ordI N X i :: (((List.range N).map (ordI N X)).drop (i + 1) ++ (List.range i).map fun (j : Nat) => 1000 + (j : Int)) := by
  unfold keysI
  rw [List.drop_eq_getElem_cons (by simpa using h)]
  simp
theorem keysI_succ (N X i : Nat) (h : i < N) : (keysI N X i).tail ++ [1000 + (i : Int)] = keysI N X (i + 1) := by
  rw [keysI_next N X i h]
  unfold keysI
  simp [List.range_succ]
theorem keysI_len (N X i : Nat) (h : i ≤ N) : (keysI N X i).length = N := by
  unfold keysI
  simp
  omega
theorem keysI_new (N X i : Nat) (hN : N ≤ 30) (hX : X < N) : ∀ k ∈ keysI N X i, k ≠ 1000 + (i : Int) := by
  intro k hk
  unfold keysI at hk
  rcases List.mem_append.1 hk with hk | hk
  · obtain ⟨j, hj, rfl⟩ := List.mem_map.1 (List.mem_of_mem_drop hk)
    have := List.mem_range.1 hj
    unfold ordI
    split
    · omega
    · split <;> omega
  · obtain ⟨j, hj, rfl⟩ := List.mem_map.1 hk
    have := List.mem_range.1 hj
    omega

theorem keys_ne {xs : List (Ent Int Bool)} {l : List Int} {k : Int} (h : xs.map (·.k) = l) (hk : ∀ i ∈ l, i ≠ k) : ∀ x ∈ xs, x.k ≠ k := by
  intro x hx
  exact hk _ (h ▸ List.mem_map_of_mem hx)
theorem drop_keys (k : Int) (xs : List (Ent Int Bool)) : (dropE k xs).map (·.k) = (xs.map (·.k)).filter fun i => decide (i ≠ k) := by
  unfold dropE
  rw [List.filter_map]
  rfl

set_option maxRecDepth 100000 in
set_option maxHeartbeats 2000000 in
theorem newest_any (n which : Int) (put : Bool) (w : World) :
    Calls Try.prog 4 #[.int .i64 n, .int .i64 which, .bool put] w fun e w' => e = .returned (.bool true) ∧ Kept (fun _ => False) w w' := by
  obtain ⟨N, hN, h2, h30⟩ : ∃ N : Nat, wrap64 (2 + (bits BinOp.and IntKind.i64 n 65535).tmod 29) = (N : Int) ∧ 2 ≤ N ∧ N ≤ 30 := by
    obtain ⟨m, hm, _⟩ := mask_nat n 16 (by omega) 65535 (by decide)
    refine ⟨2 + m % 29, ?_, by omega, by omega⟩
    rw [hm, show ((m : Int)).tmod 29 = ((m % 29 : Nat) : Int) from tmod_nat m 29, wrap64_small (by omega) (by omega)]
    omega
  obtain ⟨X, hX, hXN⟩ : ∃ X : Nat, (bits BinOp.and IntKind.i64 which 65535).tmod (N : Int) = (X : Int) ∧ X < N := by
    obtain ⟨m, hm, _⟩ := mask_nat which 16 (by omega) 65535 (by decide)
    exact ⟨m % N, by rw [hm, tmod_nat], Nat.mod_lt _ (by omega)⟩
  have hN0 : ¬ ((N : Int) = 0) := by omega
  go_enter Try.func4, Try.ntmps4
  go_wp2_with fail
  refine (shown9 w).mono ?_
  rintro e w0 ⟨rfl, k0⟩
  go_wp2_with fail
  refine (IB.new_own _ w0).mono ?_
  rintro e w1 ⟨bl, bm, rfl, hL, k1, gl, gm⟩
  rw [show max (N : Int) 1 = N by omega] at hL
  have k1 : Kept (fun b => w.heap.size ≤ b) w w1 := (k0.mono (S' := fun b => w.heap.size ≤ b) (fun _ _ e => e.elim)).trans k1 (fun b hb e => by have := k0.size; omega)
  have gl : w.heap.size ≤ bl := by have := k0.size; omega
  have gm : w.heap.size ≤ bm := by have := k0.size; omega
  clear k0
  go_wp2_with fail
  go_loopw [9] (fun i wr => ∃ (k : Nat) (xs : List (Ent Int Bool)), k ≤ N ∧ i = .int .i64 k ∧ IB.L wr bl bm N xs ∧ xs.map (·.k) = (List.range k).map Int.ofNat ∧ (∀ x ∈ xs, w.heap.size ≤ x.b) ∧ Kept (fun b => w.heap.size ≤ b) w wr) (fun i _ => N - (intOf i).toNat)
  case atStart => exact ⟨0, [], Nat.zero_le _, rfl, hL, rfl, by simp, k1⟩
  case round =>
    obtain ⟨k, xs, hk, rfl, hx, hkeys, hge, hkr⟩ := hrel
    have HK := Lib.hid hkeys
    clear hkeys hL k1
    by_cases hlt : k < N
    · have hlen : xs.length = k := by simpa using congrArg List.length HK.out
      have hnew : ∀ x ∈ xs, x.k ≠ (k : Int) := by
        refine keys_ne HK.out fun i hi => ?_
        obtain ⟨j, hj, rfl⟩ := List.mem_map.1 hi
        have := List.mem_range.1 hj
        simp only [Int.ofNat_eq_natCast]
        omega
      have hroom : (xs.length : Int) + 1 ≤ N := by omega
      have HLEN := Lib.hid hlen
      clear hlen
      go_wp2_with fail
      refine (IB.put_room hx hnew hroom).mono ?_
      rintro e w2 ⟨rfl, h3, k3, z3⟩
      have hk3 := hkr.own k3 (fp_ge gl gm hge)
      have hge3 : ∀ y ∈ xs ++ [⟨wr.heap.size, (k : Int), false⟩], w.heap.size ≤ y.b := by
        have := hkr.size
        intro y hy
        rcases List.mem_append.1 hy with hy | hy
        · exact hge y hy
        · rw [List.mem_singleton.1 hy]; exact this
      have HK3 := Lib.hid (show (xs ++ [(⟨wr.heap.size, (k : Int), false⟩ : Ent Int Bool)]).map (·.k) = (List.range (k + 1)).map Int.ofNat by rw [List.map_append, HK.out, List.range_succ]; simp)
      clear z3 k3 hnew hroom
      go_wp2_with fail
      go_roundw
      case rel => exact ⟨k + 1, _, by omega, by go_num, h3, HK3.out, hge3, hk3⟩
      case measure => simp [intOf]; omega
    · obtain rfl : k = N := by omega
      have hXK : ((List.range k).map Int.ofNat).filter (fun i => decide (i ≠ (X : Int))) ++ [(X : Int)] = (List.range k).map (ordI k X) := ord_list k X hXN
      have HXK := Lib.hid hXK
      clear hXK
      have hmem : ∃ x, lookE (X : Int) xs = some x := by
        have : (X : Int) ∈ xs.map (·.k) := by rw [HK.out]; exact List.mem_map.2 ⟨X, List.mem_range.2 hXN, rfl⟩
        obtain ⟨x, hx', e⟩ := List.mem_map.1 this
        exact ⟨x, by rw [← e]; exact lookE_mem hx.keys hx'⟩
      obtain ⟨x, hlook⟩ := hmem
      have hxk := (lookE_some hlook).2
      have hE : ∀ v, (dropE (X : Int) xs ++ [({ x with v := v } : Ent Int Bool)]).map (·.k) = keysI k X 0 := by
        intro v
        rw [List.map_append, drop_keys, HK.out]
        simp only [List.map_cons, List.map_nil, hxk, HXK.out, keysI, List.drop_zero, List.range_zero, List.append_nil]
      have HE := Lib.hid hE
      have HL := Lib.hid hlook
      have HXX := Lib.hid hxk
      clear hE hlook hxk
      have h1k : (1 : Int) ≤ (k : Int) := by omega
      have hput : ∀ w', IB.L w' bl bm k (putE k wr.heap.size (X : Int) true xs) → Kept (Lfp bl bm xs) wr w' → ∃ ys, IB.L w' bl bm k ys ∧ ys.map (·.k) = keysI k X 0 ∧ (∀ y ∈ ys, w.heap.size ≤ y.b) ∧ Kept (fun b => w.heap.size ≤ b) w w' := by
        intro w' h kk
        refine ⟨_, h, ?_, fun y hy => ?_, hkr.own kk (fp_ge gl gm hge)⟩
        · unfold putE
          rw [HL.out]
          exact HE.out true
        · have := fp_ge_put (most := k) (nb := wr.heap.size) (k := (X : Int)) (v := true) (fp_ge gl gm hge) hkr.size
          exact this y.b (.inr (.inr ⟨y, hy, rfl⟩))
      have htouch : ∀ w', IB.L w' bl bm k (useE (X : Int) xs) → Kept (Lfp bl bm xs) wr w' → ∃ ys, IB.L w' bl bm k ys ∧ ys.map (·.k) = keysI k X 0 ∧ (∀ y ∈ ys, w.heap.size ≤ y.b) ∧ Kept (fun b => w.heap.size ≤ b) w w' := by
        intro w' h kk
        refine ⟨_, h, ?_, fun y hy => ?_, hkr.own kk (fp_ge gl gm hge)⟩
        · unfold useE
          rw [HL.out]
          exact HE.out x.v
        · have : Lfp bl bm xs y.b := fp_use (k := (X : Int)) (.inr (.inr ⟨y, hy, rfl⟩))
          exact fp_ge gl gm hge _ this
      have HP := Lib.hid hput
      have HT := Lib.hid htouch
      clear hput htouch
      cases put
      case' false =>
        go_wp2_with fail
        refine (IB.touch_any hx).mono ?_
        rintro e w2 ⟨rfl, h2, k2, z2⟩
        obtain ⟨ys, hy, hky, hgy, hk2⟩ := HT.out w2 h2 k2
      case' true =>
        go_wp2_with fail
        refine (IB.put_any hx h1k).mono ?_
        rintro e w2 ⟨rfl, h2, k2, z2⟩
        obtain ⟨ys, hy, hky, hgy, hk2⟩ := HP.out w2 h2 k2
      all_goals
        have HKY := Lib.hid hky
        clear hky h2 k2 z2 hx hge hkr
        go_wp2_with fail
        go_loopw [10] (fun i wr => ∃ (i' : Nat) (xs : List (Ent Int Bool)), i' ≤ k ∧ i = .int .i64 i' ∧ IB.L wr bl bm k xs ∧ xs.map (·.k) = keysI k X i' ∧ (∀ x ∈ xs, w.heap.size ≤ x.b) ∧ Kept (fun b => w.heap.size ≤ b) w wr) (fun i _ => k - (intOf i).toNat)
        case atStart => exact ⟨0, ys, Nat.zero_le _, rfl, hy, HKY.out, hgy, hk2⟩
        case round =>
          obtain ⟨i, zs, hi, rfl, hz, hkz, hgz, hkr⟩ := hrel
          have HZ := Lib.hid hkz
          clear hkz hy hgy hk2
          by_cases hlt : i < k
          · obtain ⟨z, zs', rfl⟩ : ∃ z zs', zs = z :: zs' := by
              cases zs with
              | nil => have := keysI_len k X i hi; rw [← HZ.out] at this; simp at this; omega
              | cons z zs' => exact ⟨z, zs', rfl⟩
            have hkn := keysI_next k X i hlt
            have hzk : z.k = ordI k X i := by have := HZ.out; rw [hkn] at this; simpa using (List.cons.inj this).1
            have hnew : ∀ x ∈ z :: zs', x.k ≠ 1000 + (i : Int) := keys_ne HZ.out (keysI_new k X i (by omega) hXN)
            have hlen : zs'.length + 1 = k := by have := congrArg List.length HZ.out; rw [keysI_len k X i hi] at this; simpa using this
            have hnroom : ¬ ((zs'.length : Int) + 1 + 1 ≤ k) := by omega
            have hkeys : ∀ b, (zs' ++ [(⟨b, 1000 + (i : Int), true⟩ : Ent Int Bool)]).map (·.k) = keysI k X (i + 1) := by
              intro b
              rw [← keysI_succ k X i hlt, ← HZ.out]
              simp
            have HKN := Lib.hid hkeys
            have HLEN := Lib.hid hlen
            have HZK := Lib.hid hzk
            clear hkn hlen hkeys hzk
            go_wp2_with fail
            refine (IB.put_full hz hnew (by omega)).mono ?_
            rintro e w3 ⟨rfl, h3, k3, z3⟩
            have hk3 := hkr.own k3 (fp_ge gl gm hgz)
            have hge3 : ∀ y ∈ zs' ++ [⟨wr.heap.size, 1000 + (i : Int), true⟩], w.heap.size ≤ y.b := by
              have := hkr.size
              intro y hy
              rcases List.mem_append.1 hy with hy | hy
              · exact hgz y (.tail _ hy)
              · rw [List.mem_singleton.1 hy]; exact this
            have HK3 := Lib.hid (HKN.out wr.heap.size)
            have HL3 := Lib.hid (show ((zs' ++ [(⟨wr.heap.size, 1000 + (i : Int), true⟩ : Ent Int Bool)]).length : Int) = k by have := HLEN.out; simp; omega)
            clear z3 k3 hnew hnroom hz
            generalize wr.heap.size = nb at h3 hge3 HK3 HL3
            have fin : ∀ (P : Prop), (i + 1 = k → z.k = (X : Int) → X ≤ i → ((i : Int) == (k : Int) - 1) = true → P) → (i + 1 < k → z.k = (i : Int) + 1 → X ≤ i → ((i : Int) == (k : Int) - 1) = false → P) → (i + 1 < k → z.k = (i : Int) → i < X → ((i : Int) == (k : Int) - 1) = false → P) → P := by
              intro P c1 c2 c3
              have hh := HZK.out
              unfold ordI at hh
              by_cases e1 : i + 1 = k
              · rw [if_pos e1] at hh
                exact c1 e1 hh (by omega) (by rw [beq_iff_eq]; omega)
              · rw [if_neg e1] at hh
                by_cases e2 : X ≤ i
                · rw [if_pos e2] at hh
                  exact c2 (by omega) hh e2 (by rw [beq_eq_false_iff_ne]; omega)
                · rw [if_neg e2] at hh
                  exact c3 (by omega) hh (by omega) (by rw [beq_eq_false_iff_ne]; omega)
            refine fin _ ?_ ?_ ?_
            all_goals
              intro e1 e2 e3 e4
              have E1 := Lib.hid e1
              clear e1
              go_wp2_with fail
              refine (IB.len_any h3).mono ?_
              rintro e w4 ⟨rfl, rfl⟩
              rw [HL3.out]
              go_wp2_with fail
              go_roundw
              case rel => exact ⟨i + 1, _, by omega, by go_num, h3, HK3.out, hge3, hk3⟩
              case measure => simp [intOf]; omega
          · go_wp2_with fail
            go_ret
            exact ⟨rfl, hkr.none⟩
end Go.Proofs.Yteiilokhkpaoeaa
