/- The document's table: Update where nothing new comes in: wrong lengths, flags, an entry that is there. -/
import Derived.Test.YtalahbmahpgkeaaRefOps
import Derived.Test.YtalahbmahpgkeaaHeldE
namespace Go.Proofs.Ytalahbmahpgkeaa
set_option linter.unusedVariables false
set_option linter.unusedSimpArgs false
open Go.RowKit Go.MapKept

section
variable {W W' w w1 : World} {bt : Nat} {m : TM} {lv r : Value} {E E' : List En} {k v : ByteArray} {fl : Int}
theorem RT.set (h : RT W bt m lv E) {x : En} (hx : x ∈ E) {v : ByteArray} (hv : (v.size : Int) = m.vs) (he : EnAt W' { x with data := v }) (q : Kept (fun b => b = x.d) W W') : RT W' bt m lv (setT x.key v E) := by
  have hS : ∀ b, lv.ownBlock = some b → ¬ b = x.d := fun b hb => (h.apart b hb x hx).2
  have hbt : ¬ bt = x.d := fun e => (h.ownb x hx).2 e.symm
  have hl := h.row.lt
  have f3 : ptrs (setT x.key v E) = ptrs E := by
    unfold setT ptrs
    rw [List.map_map]
    refine List.map_congr_left fun z _ => ?_
    simp only [Function.comp]
    split <;> rfl
  have f4 : (setT x.key v E).length = E.length := by unfold setT; simp
  have f5 : (setT x.key v E).map (·.key) = E.map (·.key) := by
    unfold setT
    rw [List.map_map]
    refine List.map_congr_left fun z _ => ?_
    simp only [Function.comp]
    split <;> rfl
  have f6 : (setT x.key v E).flatMap (fun z => [z.b, z.d]) = E.flatMap fun z => [z.b, z.d] := by
    unfold setT
    rw [List.flatMap_map]
    refine congrArg (fun f => List.flatMap f E) (funext fun z => ?_)
    split <;> rfl
  have f7 : ∀ z ∈ setT x.key v E, ∃ z0 ∈ E, z.b = z0.b ∧ z.d = z0.d ∧ z.key = z0.key ∧ ((z0.key = x.key ∧ z = { z0 with data := v }) ∨ (z0.key ≠ x.key ∧ z = z0)) := by
    intro z hz
    unfold setT at hz
    obtain ⟨z0, h0, rfl⟩ := List.mem_map.1 hz
    refine ⟨z0, h0, ?_⟩
    by_cases e : z0.key = x.key
    · rw [if_pos e]
      exact ⟨rfl, rfl, rfl, .inl ⟨e, rfl⟩⟩
    · rw [if_neg e]
      exact ⟨rfl, rfl, rfl, .inr ⟨e, rfl⟩⟩
  have one : ∀ z0 ∈ E, z0.key = x.key → z0 = x := by
    intro z0 h0 e
    have hn := h.keys
    obtain ⟨i, hi, rfl⟩ := List.mem_iff_getElem.1 h0
    obtain ⟨j, hj, rfl⟩ := List.mem_iff_getElem.1 hx
    have h2 := List.pairwise_iff_getElem.1 (List.pairwise_map.1 hn)
    rcases Nat.lt_trichotomy i j with h3 | h3 | h3
    · exact (h2 i j hi hj h3 e).elim
    · subst h3; rfl
    · exact (h2 j i hj hi h3 e.symm).elim
  have hris : ∀ {A : List En}, Rises (fun z : En => z.key) A → Rises (fun z : En => z.key) (setT x.key v A) := by
    intro A hA
    unfold Rises setT
    rw [List.pairwise_map]
    refine hA.imp fun {a b} hab => ?_
    have e1 : ∀ z : En, (if z.key = x.key then { z with data := v } else z).key = z.key := fun z => by split <;> rfl
    dsimp only
    rw [e1, e1]
    exact hab
  refine ⟨h.right, h.row.kept q hbt, (q.cell (p := ⟨bt, 0, none⟩) hl hbt).trans h.c0, (q.cell (p := ⟨bt, 1, none⟩) hl hbt).trans h.c1, (q.cell (p := ⟨bt, 2, none⟩) hl hbt).trans h.c2, (q.cell (p := ⟨bt, 3, none⟩) hl hbt).trans h.c3,
    (q.cell (p := ⟨bt, 4, none⟩) hl hbt).trans h.c4, (q.cell (p := ⟨bt, 5, none⟩) hl hbt).trans h.c5, by rw [f3, f4]; exact ownsRow_kept h.own q hS, h.ne, ?_, ?_, by rw [f5]; exact h.keys, by rw [f6]; exact h.blocks, ?_, ?_, by rw [f4]; exact h.len, fun e => by rw [f5]; exact h.arr e, fun e => hris (h.rise e)⟩
  · intro z hz
    obtain ⟨z0, h0, -, -, -, ⟨e, rfl⟩ | ⟨e, rfl⟩⟩ := f7 z hz
    · rw [one z0 h0 e]
      exact he
    · have hap := (blocks_ne h.blocks hx h0).2 e
      exact (h.en z h0).kept q hap.1 hap.2.1
  · intro z hz
    obtain ⟨z0, h0, -, -, e3, ⟨e, rfl⟩ | ⟨e, rfl⟩⟩ := f7 z hz
    · exact ⟨(h.size z0 h0).1, hv⟩
    · exact h.size z h0
  · intro b hb z hz
    obtain ⟨z0, h0, e1, e2, -⟩ := f7 z hz
    rw [e1, e2]
    exact h.apart b hb z0 h0
  · intro z hz
    obtain ⟨z0, h0, e1, e2, -⟩ := f7 z hz
    rw [e1, e2]
    exact h.ownb z0 h0

/-! ### Bytes that are written one by one -/
def mixB (v d : ByteArray) : Nat → ByteArray
  | 0 => d
  | j + 1 => pokeB (mixB v d j) j (v.data.getD j 0)
theorem mixB_size (v d : ByteArray) : ∀ j, (mixB v d j).size = d.size
  | 0 => rfl
  | j + 1 => by unfold mixB; rw [pokeB_size, mixB_size v d j]
theorem mixB_nums (v d : ByteArray) : ∀ j i, j ≤ d.size → (nums (mixB v d j)).getD i 0 = if i < j then ((v.data.getD i 0).toNat : Int) else (nums d).getD i 0
  | 0, i, _ => by rw [if_neg (by omega)]; rfl
  | j + 1, i, h => by
    unfold mixB
    rw [pokeB_nums _ _ _ _ (by rw [mixB_size]; omega), mixB_nums v d j i (by omega)]
    by_cases e : i = j
    · subst e
      rw [if_pos rfl, if_pos (by omega)]
    · rw [if_neg e]
      by_cases e2 : i < j
      · rw [if_pos e2, if_pos (by omega)]
      · rw [if_neg e2, if_neg (by omega)]
theorem nums_inj {a b : ByteArray} (h : nums a = nums b) : a = b := by rw [← strOf_nums a, ← strOf_nums b, h]
theorem mixB_all {v d : ByteArray} (h : v.size = d.size) : mixB v d v.size = v := by
  refine nums_inj (List.ext_getElem? fun i => ?_)
  have h1 := mixB_nums v d v.size i (by omega)
  have l1 : (nums (mixB v d v.size)).length = v.size := by rw [nums_len, mixB_size, h]
  have l2 : (nums v).length = v.size := nums_len v
  by_cases hi : i < v.size
  · rw [List.getElem?_eq_getElem (by omega), List.getElem?_eq_getElem (by omega)]
    rw [List.getD_eq_getElem?_getD, List.getElem?_eq_getElem (by omega), if_pos hi] at h1
    simp only [Option.getD_some] at h1
    rw [h1]
    have hi' : i < v.data.size := hi
    simp [nums, Array.getD, hi', hi]
  · rw [List.getElem?_eq_none (by omega), List.getElem?_eq_none (by omega)]

set_option maxRecDepth 100000 in
theorem rupd_wrong (h : RT w bt m lv E) (hks : k.size ≤ 9223372036854775807) (hvs : v.size ≤ 9223372036854775807) (hw : (k.size : Int) ≠ m.ks ∨ (v.size : Int) ≠ m.vs ∨ fl < 0 ∨ 2 < fl) :
    Calls Try.prog 27 #[.pointer (some ⟨bt, 0, none⟩), .string k, .string v, .int .i64 fl] w fun e w' => e = .returned (.int .i64 1) ∧ w = w' := by
  have hc2 := h.c2
  have hc3 := h.c3
  clear h
  generalize m.ks = ks at *
  generalize m.vs = vs at *
  by_cases h1 : (k.size : Int) = ks
  · subst h1
    by_cases h2 : (v.size : Int) = vs
    · subst h2
      by_cases h3 : fl < 0
      · have d3 : decide (fl < 0) = true := by simpa using h3
        clear hw
        go_enter Try.func27, Try.ntmps27
        go_wp2_with fail
        go_ret
        exact ⟨rfl, rfl⟩
      · have d3 : decide (fl < 0) = false := by simpa using h3
        have h4 : 2 < fl := by omega
        have d4 : decide (2 < fl) = true := by simpa using h4
        clear hw
        go_enter Try.func27, Try.ntmps27
        go_wp2_with fail
        go_ret
        exact ⟨rfl, rfl⟩
    · have d2 : ((v.size : Int) != vs) = true := by simpa using h2
      clear hw h2
      go_enter Try.func27, Try.ntmps27
      go_wp2_with fail
      go_ret
      exact ⟨rfl, rfl⟩
  · have d1 : ((k.size : Int) != ks) = true := by simpa using h1
    clear hw h1
    go_enter Try.func27, Try.ntmps27
    go_wp2_with fail
    go_ret
    exact ⟨rfl, rfl⟩

set_option maxRecDepth 100000 in
/-- There already, and not wanted. -/
theorem rupd_exist {l1 l2 : List En} {x : En} (h : RT w bt m lv (l1 ++ x :: l2)) (hk : ∀ p ∈ l1, p.key ≠ x.key) (hks : (x.key.size : Int) = m.ks) (hvs : (v.size : Int) = m.vs) :
    Calls Try.prog 27 #[.pointer (some ⟨bt, 0, none⟩), .string x.key, .string v, .int .i64 1] w fun e w' => e = .returned (.int .i64 4) ∧ w = w' := by
  have hc2 := h.c2
  have hc3 := h.c3
  rw [← hks] at hc2
  rw [← hvs] at hc3
  have H := Lib.hid h
  have HK := Lib.hid hk
  have h3 := (rightB_iff _ _ _ _ _).1 h.right
  have hks' : x.key.size ≤ 9223372036854775807 := by omega
  have hvs' : v.size ≤ 9223372036854775807 := by omega
  clear h hk hks hvs h3
  go_enter Try.func27, Try.ntmps27
  go_wp2_with fail
  refine (rt_find_hit H.out HK.out).mono ?_
  rintro e w' ⟨rfl, rfl⟩
  go_wp2_with fail
  go_ret
  exact ⟨rfl, rfl⟩
set_option maxRecDepth 100000 in
/-- Not there, and wanted, or an array. -/
theorem rupd_none (h : RT w bt m lv E) (hk : ∀ p ∈ E, p.key ≠ k) (hks : (k.size : Int) = m.ks) (hvs : (v.size : Int) = m.vs) (hf : 0 ≤ fl ∧ fl ≤ 2) (hn : fl = 2 ∨ (fl ≠ 2 ∧ m.kd = 1)) :
    Calls Try.prog 27 #[.pointer (some ⟨bt, 0, none⟩), .string k, .string v, .int .i64 fl] w fun e w' => e = .returned (.int .i64 3) ∧ w = w' := by
  have hc1 := h.c1
  have hc2 := h.c2
  have hc3 := h.c3
  rw [← hks] at hc2
  rw [← hvs] at hc3
  have H := Lib.hid h
  have HK := Lib.hid hk
  have h3 := (rightB_iff _ _ _ _ _).1 h.right
  have hks' : k.size ≤ 9223372036854775807 := by omega
  have hvs' : v.size ≤ 9223372036854775807 := by omega
  have d1 : decide (fl < 0) = false := by simp; omega
  have d2 : decide (2 < fl) = false := by simp; omega
  clear h hk hks hvs h3
  rcases hn with rfl | ⟨h2, h1⟩
  · go_enter Try.func27, Try.ntmps27
    go_wp2_with fail
    refine (rt_find_miss H.out HK.out).mono ?_
    rintro e w' ⟨rfl, rfl⟩
    go_wp2_with fail
    go_ret
    exact ⟨rfl, rfl⟩
  · rw [h1] at hc1
    have d3 : (fl == 2) = false := by simp; omega
    clear h1 h2 hf
    go_enter Try.func27, Try.ntmps27
    go_wp2_with fail
    refine (rt_find_miss H.out HK.out).mono ?_
    rintro e w' ⟨rfl, rfl⟩
    go_wp2_with fail
    go_ret
    exact ⟨rfl, rfl⟩
set_option maxRecDepth 100000 in
set_option maxHeartbeats 1000000 in
/-- There already: its data takes the value. -/
theorem rupd_there {l1 l2 : List En} {x : En} (h : RT w bt m lv (l1 ++ x :: l2)) (hk : ∀ p ∈ l1, p.key ≠ x.key) (hks : (x.key.size : Int) = m.ks) (hvs : (v.size : Int) = m.vs) (hf : fl = 0 ∨ fl = 2) :
    Calls Try.prog 27 #[.pointer (some ⟨bt, 0, none⟩), .string x.key, .string v, .int .i64 fl] w fun e w' => e = .returned (.int .i64 0) ∧ ∃ lv', RT w' bt m lv' (setT x.key v (if m.kd = 3 then l1 ++ l2 ++ [x] else l1 ++ x :: l2)) ∧ Kept (fun b => b = bt ∨ b = x.d) w w' ∧ (∀ b, lv'.ownBlock = some b → lv.ownBlock = some b ∨ w.heap.size ≤ b) := by
  have hc2 := h.c2
  have hc3 := h.c3
  rw [← hks] at hc2
  rw [← hvs] at hc3
  have h3 := (rightB_iff _ _ _ _ _).1 h.right
  have hks' : x.key.size ≤ 9223372036854775807 := by omega
  have hvs' : v.size ≤ 9223372036854775807 := by omega
  have hmx := h.mx
  have hlen : l1.length < (l1 ++ x :: l2).length := by simp
  have hl1 : l1.length ≤ 1024 := by omega
  have d1 : decide (fl < 0) = false := by simp; omega
  have d2 : decide (2 < fl) = false := by simp; omega
  have d3 : (fl == 1) = false := by simp; omega
  have hxm : x ∈ l1 ++ x :: l2 := by simp
  have hbd := (blocks_ne h.blocks hxm hxm).1
  have hxs : v.size = x.data.size := by have := (h.size x hxm).2; omega
  have H := Lib.hid h
  have HK := Lib.hid hk
  have HF := Lib.hid (And.intro hf (And.intro hbd (And.intro hxs (And.intro hvs h3))))
  obtain ⟨E2, hE2⟩ : ∃ E2, (if m.kd = 3 then l1 ++ l2 ++ [x] else l1 ++ x :: l2) = E2 := ⟨_, rfl⟩
  have hx2 : x ∈ E2 := by rw [← hE2]; split <;> simp
  rw [hE2]
  have HE2 := Lib.hid (And.intro hE2 hx2)
  clear hE2 hx2
  clear h hk hks hvs h3 hmx hlen hf hxm hbd hxs
  go_enter Try.func27, Try.ntmps27
  go_wp2_with fail
  refine (rt_find_hit H.out HK.out).mono ?_
  rintro e w' ⟨rfl, rfl⟩
  go_wp2_with fail
  refine (rt_use H.out).mono ?_
  rintro e w2 ⟨rfl, lv2, h2, k2, f2⟩
  rw [HE2.out.1] at h2
  have hx2 := HE2.out.2
  have H2 := Lib.hid (And.intro h2 (And.intro k2 (And.intro f2 hx2)))
  have he0 := h2.en x hx2
  clear h2 k2 f2 hx2
  have E0 := Lib.hid he0
  clear he0
  go_wp2_with fail
  go_loopw [11] (fun ix wr => ∃ j : Nat, j ≤ v.size ∧ ix = .int .i64 j ∧ EnAt wr { x with data := mixB v x.data j } ∧ Kept (fun b => b = x.d) w2 wr) (fun ix _ => v.size - (intOf ix).toNat)
  case atStart => exact ⟨0, Nat.zero_le _, rfl, E0.out, .refl _ _⟩
  case round =>
    rename World => wr
    obtain ⟨j, hj, rfl, hen, kr⟩ := hrel
    clear E0
    by_cases hlt : j < v.size
    · have hsl := hen.sl
      have hdr := hen.drow
      have hms : (mixB v x.data j).size = v.size := by rw [mixB_size]; exact HF.out.2.2.1.symm
      obtain ⟨u0, hcell⟩ := hdr.some (o := j) (by have h1 : (mixB v x.data j).size ≤ x.c := hen.le; show j < x.c; omega)
      have hfr := hdr.frozen (o := j) (by have h1 : (mixB v x.data j).size ≤ x.c := hen.le; show j < x.c; omega)
      have hvj : v.data.getD j 0 = v[j] := by
        have hlt' : j < v.data.size := hlt
        unfold Array.getD
        rw [dif_pos hlt']
        rfl
      have HE := Lib.hid (And.intro hen (And.intro kr (And.intro hms hvj)))
      rw [show ({ x with data := mixB v x.data j } : En).data.size = v.size from hms] at hsl
      obtain ⟨n, hn⟩ : ∃ n, v.size = n := ⟨_, rfl⟩
      rw [hn] at hsl
      have hjn : j < n := by omega
      have HNN := Lib.hid hn
      clear hen kr hms hvj hdr hn
      go_wp2_with fail
      refine wp_region_heldE 9 (S := fun w' => w'.cell? ⟨x.b, 1, none⟩ = some (.slice (some ⟨x.d, 0, none⟩) n x.c)) (by kernel_rfl) ?_ (fun hHeld => ?_)
      · exact hsl
      refine heldE_take 0 (oi := _) (v := ?_) rfl (by kernel_rfl) (by kernel_rfl) (by kernel_rfl) (by kernel_rfl) (fun _ _ _ h => h) (by rfl) (fun w hSw => ?_) (by assumption) ?_
      rotate_left
      · (try dsimp only at hSw); go_simp; try with_reducible rfl
      try simp only [Act.put, List.setIfInBounds_toArray, List.set_cons_zero, List.set_cons_succ]
      refine heldE_take 1 (oi := _) (v := ?_) rfl (by kernel_rfl) (by kernel_rfl) (by kernel_rfl) (by kernel_rfl) (fun _ _ _ h => h) (by rfl) (fun w hSw => ?_) (by assumption) ?_
      rotate_left
      · (try dsimp only at hSw); go_simp; try with_reducible rfl
      try simp only [Act.put, List.setIfInBounds_toArray, List.set_cons_zero, List.set_cons_succ]
      refine heldE_take 2 (oi := _) (v := ?_) rfl (by kernel_rfl) (by kernel_rfl) (by kernel_rfl) (by kernel_rfl) (fun _ _ _ h => h) (by rfl) (fun w hSw => ?_) (by assumption) ?_
      rotate_left
      · (try dsimp only at hSw); go_simp; try with_reducible rfl
      try simp only [Act.put, List.setIfInBounds_toArray, List.set_cons_zero, List.set_cons_succ]
      refine heldE_take 3 (oi := _) (v := ?_) rfl (by kernel_rfl) (by kernel_rfl) (by kernel_rfl) (by kernel_rfl) (fun _ _ _ h => h) (by rfl) (fun w hSw => ?_) (by assumption) ?_
      rotate_left
      · (try dsimp only at hSw); go_simp; try with_reducible rfl
      try simp only [Act.put, List.setIfInBounds_toArray, List.set_cons_zero, List.set_cons_succ]
      refine heldE_take 4 (oi := _) (v := ?_) rfl (by kernel_rfl) (by kernel_rfl) (by kernel_rfl) (by kernel_rfl) (fun _ _ _ h => h) (by rfl) (fun w hSw => ?_) (by assumption) ?_
      rotate_left
      · (try dsimp only at hSw); go_simp; try with_reducible rfl
      try simp only [Act.put, List.setIfInBounds_toArray, List.set_cons_zero, List.set_cons_succ]
      refine heldE_take 5 (oi := _) (v := ?_) rfl (by kernel_rfl) (by kernel_rfl) (by kernel_rfl) (by kernel_rfl) (fun _ _ _ h => h) (by rfl) (fun w hSw => ?_) (by assumption) ?_
      rotate_left
      · (try dsimp only at hSw); go_simp; try with_reducible rfl
      try simp only [Act.put, List.setIfInBounds_toArray, List.set_cons_zero, List.set_cons_succ]
      refine heldE_take 6 (oi := _) (v := ?_) rfl (by kernel_rfl) (by kernel_rfl) (by kernel_rfl) (by kernel_rfl) (fun _ _ _ h => h) (by rfl) (fun w hSw => ?_) (by assumption) ?_
      rotate_left
      · (try dsimp only at hSw); go_simp; try with_reducible rfl
      try simp only [Act.put, List.setIfInBounds_toArray, List.set_cons_zero, List.set_cons_succ]
      refine heldE_take 7 (oi := _) (v := ?_) rfl (by kernel_rfl) (by kernel_rfl) (by kernel_rfl) (by kernel_rfl) (fun _ _ _ h => h) (by rfl) (fun w hSw => ?_) (by assumption) ?_
      rotate_left
      · (try dsimp only at hSw); go_simp; try with_reducible rfl
      try simp only [Act.put, List.setIfInBounds_toArray, List.set_cons_zero, List.set_cons_succ]
      refine heldE_take 8 (oi := _) (v := ?_) rfl (by kernel_rfl) (by kernel_rfl) (by kernel_rfl) (by kernel_rfl) (fun _ _ _ h => h) (by rfl) (fun w hSw => ?_) (by assumption) ?_
      rotate_left
      · (try dsimp only at hSw); go_simp; try with_reducible rfl
      try simp only [Act.put, List.setIfInBounds_toArray, List.set_cons_zero, List.set_cons_succ]
      refine wpAnyE_ready (rs := [9]) (by kernel_rfl) (by simp) ?_
      refine heldE_last (o := _) rfl (fun KC hKC => ?_) AllReadyE.nil
      go_simp
      refine hKC.out _ _ ?_
      clear hKC KC
      try simp only [Act.put, List.setIfInBounds_toArray, List.set_cons_zero, List.set_cons_succ]
      refine wpAnyE_done (by kernel_rfl) (NoPanic.normal ?_) _
      go_wp2_with fail
      go_roundw
      case rel =>
        refine ⟨j + 1, by omega, by go_num, ?_, (HE.out.2.1).trans (Kept.one_set wr ⟨x.d, j, none⟩ _).drew (fun _ _ e => e)⟩
        have := en_poke HE.out.1 HF.out.2.1 (j := j) (by show j < (mixB v x.data j).size; rw [HE.out.2.2.1, HNN.out]; exact hjn) (v.data.getD j 0)
        rw [HE.out.2.2.2] at this
        have e2 : mixB v x.data (j + 1) = pokeB (mixB v x.data j) j v[j] := by rw [← HE.out.2.2.2]; rfl
        rw [e2]
        exact this.kept ((Kept.refl (fun _ => False) _).drew) (fun e => e) (fun e => e)
      case measure => simp [intOf]; omega
    · obtain rfl : j = v.size := by omega
      go_wp2_with fail
      go_ret
      rw [mixB_all HF.out.2.2.1] at hen
      exact ⟨rfl, lv2, H2.out.1.set H2.out.2.2.2 HF.out.2.2.2.1 hen kr, (H2.out.2.1.mono fun _ _ e => .inl e).trans kr (fun _ _ e => .inr e), H2.out.2.2.1⟩
end
end Go.Proofs.Ytalahbmahpgkeaa
