/- The document's table: New. -/
import Derived.Test.YtjkgimloafpipaaGreatDocA
import Derived.Test.YtjkgimloafpipaaGreatNew
import Derived.Test.YtjkgimloafpipaaGreatHeldE
namespace Go.Proofs.YtjkgimloafpipaaGreat
set_option linter.unusedVariables false
set_option linter.unusedSimpArgs false
open Go.RowKit Go.MapKept

/-- A new entry, of bytes of one's own. -/
theorem ren_new {w : World} {d c vn : Nat} {k v : ByteArray} (t : TypeId) (own : w.ownsRow 0 5 1 (.slice (some ⟨d, 0, none⟩) vn c) vn (byteVs v)) (hn : vn = v.size) : EnAt (w.alloc (.cells #[.string k, .slice (some ⟨d, 0, none⟩) vn c] t)) ⟨w.heap.size, d, c, k, v⟩ := by
  have ka := Kept.one_alloc w (.cells #[.string k, .slice (some ⟨d, 0, none⟩) vn c] t)
  have hrow := own_row own
  rw [Nat.mul_one] at hrow
  obtain ⟨a1, c1, e1, -, -, hle⟩ := own_form own
  injection e1 with _ _ e1
  subst e1
  have hcap : c ≤ maxLen := by
    rcases own.2 with ⟨e, _⟩ | ⟨g, cap, cur, e, _, _, _, h, _⟩
    · cases e
    · injection e with _ _ e
      rw [e]
      exact h
  refine ⟨RowAt.new w #[.string k, .slice (some ⟨d, 0, none⟩) vn c] t, by simp, by rw [← hn]; simp, (hrow.kept ka (fun e => e)).rowm, by rw [← hn]; exact hle, hcap, fun i hi => ?_⟩
  exact (ka.cell (p := ⟨d, i, none⟩) hrow.lt (fun e => e)).trans (own_cell own (byteVs_at v hi))

/-- A table that is in the making. -/
structure RN (W0 : World) (bt : Nat) (m : TM) (V : Nat) (lv : Value) (i : Nat) (E : List En) (w : World) : Prop where
  row : RowAt w bt 6
  c0 : w.cell? ⟨bt, 0, none⟩ = some (.string m.nm)
  c1 : w.cell? ⟨bt, 1, none⟩ = some (.int .i64 m.kd)
  c2 : w.cell? ⟨bt, 2, none⟩ = some (.int .i64 m.ks)
  c3 : w.cell? ⟨bt, 3, none⟩ = some (.int .i64 m.vs)
  c4 : w.cell? ⟨bt, 4, none⟩ = some (.int .i64 m.mx)
  c5 : w.cell? ⟨bt, 5, none⟩ = some lv
  own : w.ownsRow 0 83 1 lv i (ptrs E)
  keys : E.map (·.key) = (List.range i).map numK
  en : ∀ x ∈ E, EnAt w x ∧ W0.heap.size ≤ x.b ∧ W0.heap.size ≤ x.d ∧ x.b ≠ bt ∧ x.d ≠ bt
  data : ∀ x ∈ E, x.data = zeroB V
  blocks : (E.flatMap fun x => [x.b, x.d]).Nodup
  apart : ∀ b, lv.ownBlock = some b → W0.heap.size ≤ b ∧ b ≠ bt ∧ ∀ x ∈ E, b ≠ x.b ∧ b ≠ x.d
  btl : W0.heap.size ≤ bt
  back : Kept (fun _ => False) W0 w
theorem RN.keep {W0 w w1 : World} {bt : Nat} {m : TM} {V i : Nat} {lv : Value} {E : List En} (h : RN W0 bt m V lv i E w) (q : Kept (fun _ => False) w w1) : RN W0 bt m V lv i E w1 := by
  have hl := h.row.lt
  exact ⟨h.row.kept q (fun e => e), (q.cell (p := ⟨bt, 0, none⟩) hl (fun e => e)).trans h.c0, (q.cell (p := ⟨bt, 1, none⟩) hl (fun e => e)).trans h.c1, (q.cell (p := ⟨bt, 2, none⟩) hl (fun e => e)).trans h.c2, (q.cell (p := ⟨bt, 3, none⟩) hl (fun e => e)).trans h.c3,
    (q.cell (p := ⟨bt, 4, none⟩) hl (fun e => e)).trans h.c4, (q.cell (p := ⟨bt, 5, none⟩) hl (fun e => e)).trans h.c5, ownsRow_kept h.own q (fun _ _ e => e), h.keys, fun x hx => ⟨(h.en x hx).1.kept q (fun e => e) (fun e => e), (h.en x hx).2⟩, h.data, h.blocks, h.apart, h.btl, h.back.trans q (fun _ _ e => e)⟩
theorem kF {S : Nat → Prop} {w w' : World} (h : Kept (fun _ => False) w w') : Kept S w w' := h.mono fun _ _ e => e.elim
theorem rn_after {W0 w W8 w7 : World} {bt : Nat} {m : TM} {V i : Nat} {lv : Value} {E : List En} (h : RN W0 bt m V lv i E w) (k : Kept (fun _ => False) w W8) (k7 : Kept (fun b => lv.ownBlock = some b) W8 w7) : w7.cell? ⟨bt, 5, none⟩ = some lv ∧ w7.frozen? ⟨bt, 5, none⟩ = false := by
  have h8 := h.keep k
  have hn : ¬ lv.ownBlock = some bt := fun e => (h.apart bt e).2.1 rfl
  exact ⟨(k7.cell (p := ⟨bt, 5, none⟩) h8.row.lt hn).trans h8.c5, (h8.row.kept k7 hn).frozen 5⟩
theorem rn_next {W0 w w1 w6 : World} {bt : Nat} {m : TM} {V i : Nat} {lv sv' : Value} {E : List En} {y : En} (h : RN W0 bt m V lv i E w) (k1 : Kept (fun _ => False) w w1) (hy : EnAt w1 y) (hb : w.heap.size ≤ y.b) (hd : w.heap.size ≤ y.d) (hne : y.d ≠ y.b)
    (hk : y.key = numK i) (hv : y.data = zeroB V) (own6 : w6.ownsRow 0 83 1 sv' (i + 1) (ptrs E ++ [.pointer (some ⟨y.b, 0, none⟩)])) (k6 : Kept (fun b => lv.ownBlock = some b) w1 w6)
    (b6 : sv'.ownBlock = lv.ownBlock ∨ sv'.ownBlock = some w1.heap.size) : RN W0 bt m V sv' (i + 1) (E ++ [y]) (w6.setCell ⟨bt, 5, none⟩ sv') := by
  have hz := k1.size
  have hz6 := k6.size
  have h1 := h.keep k1
  have hbt := h.row.lt
  have hW := h.back.size
  have hol : ∀ b, lv.ownBlock = some b → b < w.heap.size := fun b e => (h.own.lt b e).2
  have hyb := hy.row.lt
  have hyd := hy.drow.lt
  have hyn : ¬ lv.ownBlock = some y.b ∧ ¬ lv.ownBlock = some y.d := ⟨fun e => by have := hol _ e; omega, fun e => by have := hol _ e; omega⟩
  have hbn : ¬ lv.ownBlock = some bt := fun e => (h.apart bt e).2.1 rfl
  have ks := Kept.one_set w6 ⟨bt, 5, none⟩ sv'
  have hr6 := h1.row.kept k6 hbn
  have hl1 := h1.row.lt
  have cc : ∀ o v, o ≠ 5 → w1.cell? ⟨bt, o, none⟩ = some v → (w6.setCell ⟨bt, 5, none⟩ sv').cell? ⟨bt, o, none⟩ = some v := fun o v ho e => (cell_set_other _ (by omega)).trans ((k6.cell (p := ⟨bt, o, none⟩) hl1 hbn).trans e)
  have hs' : ∀ b, sv'.ownBlock = some b → lv.ownBlock = some b ∨ b = w1.heap.size := fun b e => by
    rcases b6 with h | h
    · exact .inl (h.symm.trans e)
    · exact .inr (Option.some.inj (e.symm.trans h))
  have hsb : ¬ sv'.ownBlock = some bt := fun e => (hs' bt e).elim hbn (fun e => by omega)
  refine ⟨hr6.setCell _ _, cc 0 _ (by decide) h1.c0, cc 1 _ (by decide) h1.c1, cc 2 _ (by decide) h1.c2, cc 3 _ (by decide) h1.c3, cc 4 _ (by decide) h1.c4, cell_set_same hr6 (by omega) _, ?_, ?_, ?_, ?_, ?_, ?_, h.btl, ?_⟩
  · rw [ptrs_append]
    exact ownsRow_kept own6 ks (fun b e e2 => hsb (by have e2 : b = bt := e2; rw [← e2]; exact e))
  · rw [List.map_append, h.keys, List.range_succ, List.map_append, List.map_cons, List.map_nil, List.map_cons, List.map_nil, hk]
  · intro x hx
    rcases List.mem_append.1 hx with hx | hx
    · have he := h1.en x hx
      have ha := h.apart
      refine ⟨(he.1.kept k6 (fun e => ((ha _ e).2.2 x hx).1 rfl) (fun e => ((ha _ e).2.2 x hx).2 rfl)).kept ks he.2.2.2.1 he.2.2.2.2, he.2⟩
    · rw [List.mem_singleton] at hx
      subst hx
      exact ⟨(hy.kept k6 hyn.1 hyn.2).kept ks (by show ¬ _ = bt; omega) (by show ¬ _ = bt; omega), by omega, by omega, by omega, by omega⟩
  · intro x hx
    rcases List.mem_append.1 hx with hx | hx
    · exact h.data x hx
    · rw [List.mem_singleton] at hx
      subst hx
      exact hv
  · rw [List.flatMap_append, List.nodup_append]
    refine ⟨h.blocks, by simpa using fun e => hne e.symm, ?_⟩
    intro a ha b hb' e
    obtain ⟨x, hx, ha⟩ := List.mem_flatMap.1 ha
    have l1 := (h.en x hx).1.row.lt
    have l2 := (h.en x hx).1.drow.lt
    simp only [List.flatMap_cons, List.flatMap_nil, List.append_nil, List.mem_cons, List.not_mem_nil, or_false] at ha hb'
    omega
  · intro b hb'
    rcases hs' b hb' with e | e
    · have h1 := h.apart b e
      have h2 := hol b e
      refine ⟨h1.1, h1.2.1, fun x hx => ?_⟩
      rcases List.mem_append.1 hx with hx | hx
      · exact h1.2.2 x hx
      · rw [List.mem_singleton] at hx
        subst hx
        omega
    · refine ⟨by omega, by omega, fun x hx => ?_⟩
      rcases List.mem_append.1 hx with hx | hx
      · have l1 := (h.en x hx).1.row.lt
        have l2 := (h.en x hx).1.drow.lt
        omega
      · rw [List.mem_singleton] at hx
        subst hx
        omega
  · refine ((h.back.trans k1 (fun _ _ e => e)).trans k6 (fun b hb e => ?_)).trans ks (fun b hb e => ?_)
    · have := (h.apart b e).1
      omega
    · have e : b = bt := e
      have := h.btl
      omega
theorem rn_ex {W0 wr W5 w7 : World} {bt : Nat} {m : TM} {V N i d yb : Nat} {lv sv' : Value} {E : List En} {R : Obj} (h : RN W0 bt m V lv i E wr) (k5 : Kept (fun _ => False) wr W5) (own5 : W5.ownsRow 0 5 1 (.slice (some ⟨d, 0, none⟩) V V) V (byteVs (zeroB V))) (hd : wr.heap.size ≤ d) (hyb : yb = W5.heap.size)
    (own7 : w7.ownsRow 0 83 1 sv' (i + 1) (ptrs E ++ [.pointer (some ⟨yb, 0, none⟩)]))
    (k7 : Kept (fun b => lv.ownBlock = some b) ((W5.alloc (.cells #[.string (numK i), .slice (some ⟨d, 0, none⟩) V V] 82)).alloc R) w7) (b7 : sv'.ownBlock = lv.ownBlock ∨ sv'.ownBlock = some ((W5.alloc (.cells #[.string (numK i), .slice (some ⟨d, 0, none⟩) V V] 82)).alloc R).heap.size) (hi : i < N) :
    ∃ E', i + 1 ≤ N ∧ Value.int .i64 ((i : Int) + 1) = .int .i64 ((i + 1 : Nat) : Int) ∧ RN W0 bt m V sv' (i + 1) E' (w7.setCell ⟨bt, 5, none⟩ sv') := by
  subst hyb
  have he := (ren_new (k := numK i) 82 own5 (zeroB_size V).symm).kept (Kept.one_alloc _ R) (fun e => e) (fun e => e)
  have hdl := (own_row own5).lt
  have := k5.size
  exact ⟨_, by omega, by go_num, rn_next h ((k5.alloc _).alloc _) he (by show wr.heap.size ≤ W5.heap.size; omega) hd (by show d ≠ W5.heap.size; omega) rfl rfl own7 k7 b7⟩

section
variable {W : World} {nm : ByteArray} {kd ks vs mx : Int}
theorem rn_rt {W0 w : World} {bt N V : Nat} {lv : Value} {E : List En} (hr : rightB nm 1 4 (V : Int) (N : Int) = true) (hN : N ≤ 1024) (h : RN W0 bt ⟨nm, 1, 4, V, N⟩ V lv N E w) : RT w bt ⟨nm, 1, 4, V, N⟩ lv E := by
  have hlen : E.length = N := by simpa using congrArg List.length h.keys
  refine ⟨hr, h.row, h.c0, h.c1, h.c2, h.c3, h.c4, h.c5, by rw [hlen]; exact h.own, fun e => (h.apart bt e).2.1 rfl, fun x hx => (h.en x hx).1, fun x hx => ⟨?_, by rw [h.data x hx, zeroB_size]⟩, by rw [h.keys]; exact numK_nodup N (by omega), h.blocks, fun b hb => (h.apart b hb).2.2, fun x hx => ⟨(h.en x hx).2.2.2.1, (h.en x hx).2.2.2.2⟩, by show (E.length : Int) ≤ (N : Int); omega, fun _ => ?_, fun e => absurd e (by show ¬ (1 : Int) = 2; decide)⟩
  · have : x.key ∈ E.map (·.key) := List.mem_map_of_mem hx
    rw [h.keys] at this
    obtain ⟨j, -, e⟩ := List.mem_map.1 this
    rw [← e]
    rfl
  · rw [h.keys]
    show (List.range N).map numK = (List.range (N : Int).toNat).map numK
    rw [Int.toNat_natCast]
set_option maxRecDepth 100000 in
set_option maxHeartbeats 2000000 in
theorem rnew_arr {V N : Nat} (hs : nm.size ≤ 9223372036854775807) (hr : rightB nm 1 4 (V : Int) (N : Int) = true) : Calls Tryz.prog 34 #[.agg #[.string nm, .int .i64 1, .int .i64 4, .int .i64 (V : Int), .int .i64 (N : Int)]] W fun e w' => ∃ bt lv E, e = .returned (.tuple #[.pointer (some ⟨bt, 0, none⟩), .int .i64 0]) ∧ ∃ W1, Kept (fun _ => False) W W1 ∧ RN W1 bt ⟨nm, 1, 4, V, N⟩ V lv N E w' := by
  have k0 := Kept.one_alloc W (.cells #[.string nm, .int .i64 1, .int .i64 4, .int .i64 (V : Int), .int .i64 (N : Int)] 25)
  have K0 := Lib.hid k0
  have HR := Lib.hid hr
  have h3 := (rightB_iff _ _ _ _ _).1 hr
  have hV : V ≤ 256 := by omega
  have hN : N ≤ 1024 := by omega
  clear k0 hr h3
  go_enter Tryz.func34, Tryz.ntmps34
  go_wp2_with fail
  refine (rright_any nm hs 1 4 V N _).mono ?_
  rintro e w1 ⟨rfl, k1⟩
  rw [HR.out]
  generalize hw0 : W.alloc (.cells #[.string nm, .int .i64 1, .int .i64 4, .int .i64 (V : Int), .int .i64 (N : Int)] 25) = W0 at *
  have hz : W0.heap[W.heap.size]? = some (.cells #[.string nm, .int .i64 1, .int .i64 4, .int .i64 (V : Int), .int .i64 (N : Int)] 25 (0, 0)) := by rw [← hw0]; exact heap_alloc_new W _
  have hlt : W.heap.size < W0.heap.size := by rw [← hw0]; simp
  clear hw0
  have K1 := Lib.hid (K0.out.trans k1 (fun _ _ e => e))
  generalize hq : W.heap.size = q at *
  have c0 : w1.cell? ⟨q, 0, none⟩ = some (.string nm) := (k1.cell (p := ⟨q, 0, none⟩) hlt (fun e => e)).trans (by simp [World.cell?, hz])
  have c1 : w1.cell? ⟨q, 1, none⟩ = some (.int .i64 1) := (k1.cell (p := ⟨q, 1, none⟩) hlt (fun e => e)).trans (by simp [World.cell?, hz])
  have c2 : w1.cell? ⟨q, 2, none⟩ = some (.int .i64 4) := (k1.cell (p := ⟨q, 2, none⟩) hlt (fun e => e)).trans (by simp [World.cell?, hz])
  have c3 : w1.cell? ⟨q, 3, none⟩ = some (.int .i64 (V : Int)) := (k1.cell (p := ⟨q, 3, none⟩) hlt (fun e => e)).trans (by simp [World.cell?, hz])
  have c4 : w1.cell? ⟨q, 4, none⟩ = some (.int .i64 (N : Int)) := (k1.cell (p := ⟨q, 4, none⟩) hlt (fun e => e)).trans (by simp [World.cell?, hz])
  have hq1 : q < w1.heap.size := Nat.lt_of_lt_of_le hlt k1.size
  have HQ := Lib.hid hq
  clear k1 hz hlt hq
  obtain ⟨bt, hbt⟩ : ∃ bt, w1.heap.size = bt := ⟨_, rfl⟩
  obtain ⟨W2, hW2⟩ : ∃ W2, W2 = w1.alloc (.cells #[.string nm, .int .i64 1, .int .i64 4, .int .i64 (V : Int), .int .i64 (N : Int), .slice none 0 0] 105) := ⟨_, rfl⟩
  have k12 : Kept (fun _ => False) w1 W2 := by rw [hW2]; exact Kept.one_alloc w1 _
  have hz2 : W2.heap[bt]? = some (.cells #[.string nm, .int .i64 1, .int .i64 4, .int .i64 (V : Int), .int .i64 (N : Int), .slice none 0 0] 105 (0, 0)) := by rw [hW2, ← hbt]; exact heap_alloc_new w1 _
  have hRN : RN w1 bt ⟨nm, 1, 4, V, N⟩ V (.slice none 0 0) 0 [] W2 := by
    refine ⟨⟨_, _, hz2, rfl⟩, by simp [World.cell?, hz2], by simp [World.cell?, hz2], by simp [World.cell?, hz2], by simp [World.cell?, hz2], by simp [World.cell?, hz2], by simp [World.cell?, hz2], World.ownsRow_nil _ _ _ _, rfl, fun _ h => (by cases h), fun _ h => (by cases h), List.nodup_nil, fun _ h => (by cases h), ?_, k12⟩
    omega
  have R0 := Lib.hid hRN
  have HW2 := Lib.hid (And.intro hW2 hbt)
  clear hRN k12 hz2 hW2 hbt
  go_wp2_with fail
  rw [HW2.out.2, ← HW2.out.1]
  go_loopw [6] (fun ix wr => ∃ (i : Nat) (lv : Value) (E : List En), i ≤ N ∧ ix = .int .i64 i ∧ RN w1 bt ⟨nm, 1, 4, V, N⟩ V lv i E wr) (fun ix _ => N - (intOf ix).toNat)
  case atStart => exact ⟨0, _, [], Nat.zero_le _, rfl, R0.out⟩
  case round =>
    rename World => wr
    obtain ⟨i, lv, E, hi, rfl, hA⟩ := hrel
    have kr := hA.back
    have d1 := (kr.cell (p := ⟨q, 1, none⟩) hq1 (fun e => e)).trans c1
    have d3 := (kr.cell (p := ⟨q, 3, none⟩) hq1 (fun e => e)).trans c3
    have d4 := (kr.cell (p := ⟨q, 4, none⟩) hq1 (fun e => e)).trans c4
    have d5 := hA.c5
    have HA := Lib.hid hA
    have KR := Lib.hid kr
    have hqr : q < wr.heap.size := Nat.lt_of_lt_of_le hq1 kr.size
    obtain ⟨la, lc, rfl, -, -, hlc⟩ := own_form hA.own
    clear hA kr R0
    by_cases hlt : i < N
    · have hlt' : (i : Int) < (N : Int) := by omega
      have NUM : ∀ W', Kept (fun _ => False) wr W' → Calls Tryz.prog 38 #[.int .i64 (i : Int)] W' fun e w' => e = .returned (.string (numK i)) ∧ w'.cell? ⟨q, 3, none⟩ = some (.int .i64 (V : Int)) ∧ w'.cell? ⟨bt, 5, none⟩ = some (.slice la i lc) ∧ Kept (fun _ => False) wr w' ∧ Kept (fun _ => False) W' w' := by
        intro W' k
        refine (rnumbered_any i (by omega) W').mono ?_
        rintro e w' ⟨rfl, k'⟩
        exact ⟨rfl, ((k.trans k' (fun _ _ e => e)).cell (p := ⟨q, 3, none⟩) hqr (fun e => e)).trans d3, (HA.out.keep (k.trans k' (fun _ _ e => e))).c5, k.trans k' (fun _ _ e => e), k'⟩
      have NUMH := Lib.hid NUM
      have hmk0 := make_bytes V (by omega)
      have HOZ := Lib.hid (own_zero V (by omega))
      obtain ⟨Z, hZ⟩ : ∃ Z, Z = madeCells (Value.int .u8 0).cells (V * 1) := ⟨_, rfl⟩
      rw [← hZ] at hmk0 HOZ
      have hbtr : bt < wr.heap.size := HA.out.row.lt
      clear NUM hZ
      go_wp2_with fail
      have SS := Lib.hid (show ∀ w', Kept (fun b => w1.heap.size ≤ b ∧ b ≠ bt) wr w' → w'.cell? ⟨q, 3, none⟩ = some (.int .i64 (V : Int)) ∧ w'.cell? ⟨bt, 5, none⟩ = some (.slice la i lc) from fun w' kk => ⟨(kk.cell (p := ⟨q, 3, none⟩) hqr (by simp; omega)).trans d3, (kk.cell (p := ⟨bt, 5, none⟩) hbtr (by simp)).trans d5⟩)
      refine wp_region_heldE 16 (S := fun w' => w'.cell? ⟨q, 3, none⟩ = some (.int .i64 (V : Int)) ∧ w'.cell? ⟨bt, 5, none⟩ = some (.slice la i lc)) (by kernel_rfl) ?_ (fun hHeld => ?_)
      · exact SS.out _ ((Kept.refl _ _).twin ⟨rfl, rfl, rfl, rfl⟩)
      refine heldE_take 0 (oi := _) (v := ?_) rfl (by kernel_rfl) (by kernel_rfl) (by kernel_rfl) (by kernel_rfl) (fun _ _ _ h => h) (by rfl) (fun w hSw => ?_) (by assumption) ?_
      rotate_left
      · (try dsimp only at hSw); go_simp; try with_reducible rfl
      try simp only [Act.put, List.setIfInBounds_toArray, List.set_cons_zero, List.set_cons_succ]
      refine heldE_take 1 (oi := _) (v := ?_) rfl (by kernel_rfl) (by kernel_rfl) (by kernel_rfl) (by kernel_rfl) (fun _ _ _ h => h) (by rfl) (fun w hSw => ?_) (by assumption) ?_
      rotate_left
      · (try dsimp only at hSw); go_simp; try with_reducible rfl
      try simp only [Act.put, List.setIfInBounds_toArray, List.set_cons_zero, List.set_cons_succ]
      refine heldE_take 2 (oi := _) (v := ?_) rfl (by kernel_rfl) (by kernel_rfl) (by kernel_rfl) (by kernel_rfl) (fun _ _ _ h => h) (by rfl) (fun w hSw => ?_) (by assumption) ?_
      rotate_left
      · (try dsimp only at hSw); go_simp; try with_reducible rfl
      try simp only [Act.put, List.setIfInBounds_toArray, List.set_cons_zero, List.set_cons_succ]
      refine heldE_take 3 (oi := _) (v := ?_) rfl (by kernel_rfl) (by kernel_rfl) (by kernel_rfl) (by kernel_rfl) (fun _ _ _ h => h) (by rfl) (fun w hSw => ?_) (by assumption) ?_
      rotate_left
      · (try dsimp only at hSw); go_simp; try with_reducible rfl
      try simp only [Act.put, List.setIfInBounds_toArray, List.set_cons_zero, List.set_cons_succ]
      refine heldE_take 4 (oi := _) (v := ?_) rfl (by kernel_rfl) (by kernel_rfl) (by kernel_rfl) (by kernel_rfl) (fun _ _ _ h => h) (by rfl) (fun w hSw => ?_) (by assumption) ?_
      rotate_left
      · (try dsimp only at hSw); go_simp; try with_reducible rfl
      try simp only [Act.put, List.setIfInBounds_toArray, List.set_cons_zero, List.set_cons_succ]
      refine heldE_take 5 (oi := _) (v := ?_) rfl (by kernel_rfl) (by kernel_rfl) (by kernel_rfl) (by kernel_rfl) (fun _ _ _ h => h) (by rfl) (fun w hSw => ?_) (by assumption) ?_
      rotate_left
      · (try dsimp only at hSw); go_simp; try with_reducible rfl
      try simp only [Act.put, List.setIfInBounds_toArray, List.set_cons_zero, List.set_cons_succ]
      refine heldE_take 7 (oi := _) (v := ?_) rfl (by kernel_rfl) (by kernel_rfl) (by kernel_rfl) (by kernel_rfl) (fun _ _ _ h => h) (by rfl) (fun w hSw => ?_) (by assumption) ?_
      rotate_left
      · (try dsimp only at hSw); go_simp; try with_reducible rfl
      try simp only [Act.put, List.setIfInBounds_toArray, List.set_cons_zero, List.set_cons_succ]
      refine heldE_take 8 (oi := _) (v := ?_) rfl (by kernel_rfl) (by kernel_rfl) (by kernel_rfl) (by kernel_rfl) (fun _ _ _ h => h) (by rfl) (fun w hSw => ?_) (by assumption) ?_
      rotate_left
      · (try dsimp only at hSw); go_simp; try with_reducible rfl
      try simp only [Act.put, List.setIfInBounds_toArray, List.set_cons_zero, List.set_cons_succ]
      refine wpAnyE_ready (rs := [6, 9]) (by kernel_rfl) (by simp) ?_
      refine heldE_cons 6 (o := _) rfl (fun KC hKC => ?_) (heldE_cons 9 (o := _) rfl (fun KC hKC => ?_) AllReadyE.nil)
      ·
        go_simp
        with_reducible refine Calls.mono (NUMH.out _ ?_) ?_
        · first | exact (Kept.refl _ _).twin ⟨rfl, rfl, rfl, rfl⟩ | exact ((Kept.refl _ _).alloc _).twin ⟨rfl, rfl, rfl, rfl⟩
        rintro e w6 ⟨rfl, hc6, hd6, kr6, k6⟩
        have K6 := Lib.hid k6
        have KR6 := Lib.hid kr6
        clear k6 kr6
        dsimp only
        refine hKC.out _ _ ?_ (fun hHeld => ?_)
        · first | exact SS.out _ (((((KR6.out.alloc _).alloc _).alloc _).mono (fun _ _ e => e.elim)).trans K7.out (fun b hb e => ⟨(HA.out.apart b e).1, (HA.out.apart b e).2.1⟩)) | exact SS.out _ ((((KR6.out.alloc _).alloc _).mono (fun _ _ e => e.elim)).trans K7.out (fun b hb e => ⟨(HA.out.apart b e).1, (HA.out.apart b e).2.1⟩)) | exact SS.out _ ((KR6.out.twin ⟨rfl, rfl, rfl, rfl⟩).mono (fun _ _ e => e.elim)) | exact SS.out _ (((KR6.out.alloc _).twin ⟨rfl, rfl, rfl, rfl⟩).mono (fun _ _ e => e.elim)) | exact SS.out _ ((((KR6.out.alloc _).alloc _).twin ⟨rfl, rfl, rfl, rfl⟩).mono (fun _ _ e => e.elim)) | exact SS.out _ (((((KR6.out.alloc _).alloc _).alloc _).twin ⟨rfl, rfl, rfl, rfl⟩).mono (fun _ _ e => e.elim)) | exact SS.out _ (kF ((Kept.one_alloc wr _).twin (twin_drew _)))
        clear hKC KC
        try simp only [Act.put, List.setIfInBounds_toArray, List.set_cons_zero, List.set_cons_succ]
        refine wpAnyE_ready (rs := [9]) (by kernel_rfl) (by simp) ?_
        refine heldE_cons 9 (o := _) rfl (fun KC hKC => ?_) AllReadyE.nil
        go_simp
        refine hKC.out _ _ ?_ (fun hHeld => ?_)
        · first | exact SS.out _ (((((KR6.out.alloc _).alloc _).alloc _).mono (fun _ _ e => e.elim)).trans K7.out (fun b hb e => ⟨(HA.out.apart b e).1, (HA.out.apart b e).2.1⟩)) | exact SS.out _ ((((KR6.out.alloc _).alloc _).mono (fun _ _ e => e.elim)).trans K7.out (fun b hb e => ⟨(HA.out.apart b e).1, (HA.out.apart b e).2.1⟩)) | exact SS.out _ ((KR6.out.twin ⟨rfl, rfl, rfl, rfl⟩).mono (fun _ _ e => e.elim)) | exact SS.out _ (((KR6.out.alloc _).twin ⟨rfl, rfl, rfl, rfl⟩).mono (fun _ _ e => e.elim)) | exact SS.out _ ((((KR6.out.alloc _).alloc _).twin ⟨rfl, rfl, rfl, rfl⟩).mono (fun _ _ e => e.elim)) | exact SS.out _ (((((KR6.out.alloc _).alloc _).alloc _).twin ⟨rfl, rfl, rfl, rfl⟩).mono (fun _ _ e => e.elim)) | exact SS.out _ (kF ((Kept.one_alloc wr _).twin (twin_drew _)))
        clear hKC KC
        try simp only [Act.put, List.setIfInBounds_toArray, List.set_cons_zero, List.set_cons_succ]
        refine heldE_take 10 (oi := _) (v := ?_) rfl (by kernel_rfl) (by kernel_rfl) (by kernel_rfl) (by kernel_rfl) (fun _ _ _ h => h) (by rfl) (fun w hSw => ?_) (by assumption) ?_
        rotate_left
        · (try dsimp only at hSw); go_simp; try with_reducible rfl
        try simp only [Act.put, List.setIfInBounds_toArray, List.set_cons_zero, List.set_cons_succ]
        refine wpAnyE_ready (rs := [11]) (by kernel_rfl) (by simp) ?_
        refine heldE_cons 11 (o := _) rfl (fun KC hKC => ?_) AllReadyE.nil
        go_simp
        refine hKC.out _ _ ?_ (fun hHeld => ?_)
        · first | exact SS.out _ (((((KR6.out.alloc _).alloc _).alloc _).mono (fun _ _ e => e.elim)).trans K7.out (fun b hb e => ⟨(HA.out.apart b e).1, (HA.out.apart b e).2.1⟩)) | exact SS.out _ ((((KR6.out.alloc _).alloc _).mono (fun _ _ e => e.elim)).trans K7.out (fun b hb e => ⟨(HA.out.apart b e).1, (HA.out.apart b e).2.1⟩)) | exact SS.out _ ((KR6.out.twin ⟨rfl, rfl, rfl, rfl⟩).mono (fun _ _ e => e.elim)) | exact SS.out _ (((KR6.out.alloc _).twin ⟨rfl, rfl, rfl, rfl⟩).mono (fun _ _ e => e.elim)) | exact SS.out _ ((((KR6.out.alloc _).alloc _).twin ⟨rfl, rfl, rfl, rfl⟩).mono (fun _ _ e => e.elim)) | exact SS.out _ (((((KR6.out.alloc _).alloc _).alloc _).twin ⟨rfl, rfl, rfl, rfl⟩).mono (fun _ _ e => e.elim)) | exact SS.out _ (kF ((Kept.one_alloc wr _).twin (twin_drew _)))
        clear hKC KC
        try simp only [Act.put, List.setIfInBounds_toArray, List.set_cons_zero, List.set_cons_succ]
        refine wpAnyE_ready (rs := [12]) (by kernel_rfl) (by simp) ?_
        refine heldE_cons 12 (o := _) rfl (fun KC hKC => ?_) AllReadyE.nil
        go_simp
        refine hKC.out _ _ ?_ (fun hHeld => ?_)
        · first | exact SS.out _ (((((KR6.out.alloc _).alloc _).alloc _).mono (fun _ _ e => e.elim)).trans K7.out (fun b hb e => ⟨(HA.out.apart b e).1, (HA.out.apart b e).2.1⟩)) | exact SS.out _ ((((KR6.out.alloc _).alloc _).mono (fun _ _ e => e.elim)).trans K7.out (fun b hb e => ⟨(HA.out.apart b e).1, (HA.out.apart b e).2.1⟩)) | exact SS.out _ ((KR6.out.twin ⟨rfl, rfl, rfl, rfl⟩).mono (fun _ _ e => e.elim)) | exact SS.out _ (((KR6.out.alloc _).twin ⟨rfl, rfl, rfl, rfl⟩).mono (fun _ _ e => e.elim)) | exact SS.out _ ((((KR6.out.alloc _).alloc _).twin ⟨rfl, rfl, rfl, rfl⟩).mono (fun _ _ e => e.elim)) | exact SS.out _ (((((KR6.out.alloc _).alloc _).alloc _).twin ⟨rfl, rfl, rfl, rfl⟩).mono (fun _ _ e => e.elim)) | exact SS.out _ (kF ((Kept.one_alloc wr _).twin (twin_drew _)))
        clear hKC KC
        try simp only [Act.put, List.setIfInBounds_toArray, List.set_cons_zero, List.set_cons_succ]
        refine wpAnyE_ready (rs := [13]) (by kernel_rfl) (by simp) ?_
        refine heldE_cons 13 (o := _) rfl (fun KC hKC => ?_) AllReadyE.nil
        refine step_append_mine rfl (.tmp 29) (.tmp 37) rentE rfl rfl (ownsRow_kept HA.out.own (by first | exact ((KR6.out.alloc _).alloc _).alloc _ | exact (KR6.out.alloc _).alloc _) (fun _ _ e => e)) (some ⟨_, 0, none⟩) 1 1 [.pointer (some ⟨_, 0, none⟩)] rfl rfl (holds_new1 _ _ _ (by simp)) (by simp [Value.oneCell']) (by unfold maxLen; omega) (by omega) ?_
        intro a3 c3 w7 own7 k7 b7
        obtain ⟨hc7, hf7⟩ := rn_after HA.out (by first | exact ((KR6.out.alloc _).alloc _).alloc _ | exact (KR6.out.alloc _).alloc _) k7
        have OWN7 := Lib.hid own7
        have K7 := Lib.hid k7
        have B7 := Lib.hid b7
        clear own7 k7 b7
        refine hKC.out _ _ ?_ (fun hHeld => ?_)
        · first | exact SS.out _ (((((KR6.out.alloc _).alloc _).alloc _).mono (fun _ _ e => e.elim)).trans K7.out (fun b hb e => ⟨(HA.out.apart b e).1, (HA.out.apart b e).2.1⟩)) | exact SS.out _ ((((KR6.out.alloc _).alloc _).mono (fun _ _ e => e.elim)).trans K7.out (fun b hb e => ⟨(HA.out.apart b e).1, (HA.out.apart b e).2.1⟩)) | exact SS.out _ ((KR6.out.twin ⟨rfl, rfl, rfl, rfl⟩).mono (fun _ _ e => e.elim)) | exact SS.out _ (((KR6.out.alloc _).twin ⟨rfl, rfl, rfl, rfl⟩).mono (fun _ _ e => e.elim)) | exact SS.out _ ((((KR6.out.alloc _).alloc _).twin ⟨rfl, rfl, rfl, rfl⟩).mono (fun _ _ e => e.elim)) | exact SS.out _ (((((KR6.out.alloc _).alloc _).alloc _).twin ⟨rfl, rfl, rfl, rfl⟩).mono (fun _ _ e => e.elim)) | exact SS.out _ (kF ((Kept.one_alloc wr _).twin (twin_drew _)))
        clear hKC KC
        try simp only [Act.put, List.setIfInBounds_toArray, List.set_cons_zero, List.set_cons_succ]
        refine wpAnyE_ready (rs := [14]) (by kernel_rfl) (by simp) ?_
        refine heldE_cons 14 (o := _) rfl (fun KC hKC => ?_) AllReadyE.nil
        go_simp
        refine hKC.out _ _ ?_ (fun hHeld => ?_)
        · first | exact SS.out _ (((((KR6.out.alloc _).alloc _).alloc _).mono (fun _ _ e => e.elim)).trans K7.out (fun b hb e => ⟨(HA.out.apart b e).1, (HA.out.apart b e).2.1⟩)) | exact SS.out _ ((((KR6.out.alloc _).alloc _).mono (fun _ _ e => e.elim)).trans K7.out (fun b hb e => ⟨(HA.out.apart b e).1, (HA.out.apart b e).2.1⟩)) | exact SS.out _ ((KR6.out.twin ⟨rfl, rfl, rfl, rfl⟩).mono (fun _ _ e => e.elim)) | exact SS.out _ (((KR6.out.alloc _).twin ⟨rfl, rfl, rfl, rfl⟩).mono (fun _ _ e => e.elim)) | exact SS.out _ ((((KR6.out.alloc _).alloc _).twin ⟨rfl, rfl, rfl, rfl⟩).mono (fun _ _ e => e.elim)) | exact SS.out _ (((((KR6.out.alloc _).alloc _).alloc _).twin ⟨rfl, rfl, rfl, rfl⟩).mono (fun _ _ e => e.elim)) | exact SS.out _ (kF ((Kept.one_alloc wr _).twin (twin_drew _)))
        clear hKC KC
        try simp only [Act.put, List.setIfInBounds_toArray, List.set_cons_zero, List.set_cons_succ]
        refine heldE_take 15 (oi := _) (v := ?_) rfl (by kernel_rfl) (by kernel_rfl) (by kernel_rfl) (by kernel_rfl) (fun _ _ _ h => h) (by rfl) (fun w hSw => ?_) (by assumption) ?_
        rotate_left
        · (try dsimp only at hSw); go_simp; try with_reducible rfl
        try simp only [Act.put, List.setIfInBounds_toArray, List.set_cons_zero, List.set_cons_succ]
        refine wpAnyE_ready (rs := [16]) (by kernel_rfl) (by simp) ?_
        refine heldE_last (o := _) rfl (fun KC hKC => ?_) AllReadyE.nil
        go_simp
        refine hKC.out _ _ ?_
        clear hKC KC
        try simp only [Act.put, List.setIfInBounds_toArray, List.set_cons_zero, List.set_cons_succ]
        refine wpAnyE_done (by kernel_rfl) (NoPanic.normal ?_) _
        go_wp2_with fail
        go_roundw
        case rel => exact ⟨i + 1, _, rn_ex HA.out (by first | exact KR6.out.alloc _ | exact KR6.out) (by first | exact HOZ.out w6 | exact ownsRow_kept (w := (wr.alloc (.cells Z 5)).drew) (HOZ.out wr) K6.out (fun _ _ e => e)) (by first | exact KR6.out.size | exact Nat.le_refl _) (by simp) OWN7.out K7.out B7.out (by omega)⟩
        case measure => simp [intOf]; omega
      ·
        go_simp
        refine hKC.out _ _ ?_ (fun hHeld => ?_)
        · first | exact SS.out _ (((((KR6.out.alloc _).alloc _).alloc _).mono (fun _ _ e => e.elim)).trans K7.out (fun b hb e => ⟨(HA.out.apart b e).1, (HA.out.apart b e).2.1⟩)) | exact SS.out _ ((((KR6.out.alloc _).alloc _).mono (fun _ _ e => e.elim)).trans K7.out (fun b hb e => ⟨(HA.out.apart b e).1, (HA.out.apart b e).2.1⟩)) | exact SS.out _ ((KR6.out.twin ⟨rfl, rfl, rfl, rfl⟩).mono (fun _ _ e => e.elim)) | exact SS.out _ (((KR6.out.alloc _).twin ⟨rfl, rfl, rfl, rfl⟩).mono (fun _ _ e => e.elim)) | exact SS.out _ ((((KR6.out.alloc _).alloc _).twin ⟨rfl, rfl, rfl, rfl⟩).mono (fun _ _ e => e.elim)) | exact SS.out _ (((((KR6.out.alloc _).alloc _).alloc _).twin ⟨rfl, rfl, rfl, rfl⟩).mono (fun _ _ e => e.elim)) | exact SS.out _ (kF ((Kept.one_alloc wr _).twin (twin_drew _)))
        clear hKC KC
        try simp only [Act.put, List.setIfInBounds_toArray, List.set_cons_zero, List.set_cons_succ]
        refine wpAnyE_ready (rs := [6]) (by kernel_rfl) (by simp) ?_
        refine heldE_cons 6 (o := _) rfl (fun KC hKC => ?_) AllReadyE.nil
        go_simp
        with_reducible refine Calls.mono (NUMH.out _ ?_) ?_
        · first | exact (Kept.refl _ _).twin ⟨rfl, rfl, rfl, rfl⟩ | exact ((Kept.refl _ _).alloc _).twin ⟨rfl, rfl, rfl, rfl⟩
        rintro e w6 ⟨rfl, hc6, hd6, kr6, k6⟩
        have K6 := Lib.hid k6
        have KR6 := Lib.hid kr6
        clear k6 kr6
        dsimp only
        refine hKC.out _ _ ?_ (fun hHeld => ?_)
        · first | exact SS.out _ (((((KR6.out.alloc _).alloc _).alloc _).mono (fun _ _ e => e.elim)).trans K7.out (fun b hb e => ⟨(HA.out.apart b e).1, (HA.out.apart b e).2.1⟩)) | exact SS.out _ ((((KR6.out.alloc _).alloc _).mono (fun _ _ e => e.elim)).trans K7.out (fun b hb e => ⟨(HA.out.apart b e).1, (HA.out.apart b e).2.1⟩)) | exact SS.out _ ((KR6.out.twin ⟨rfl, rfl, rfl, rfl⟩).mono (fun _ _ e => e.elim)) | exact SS.out _ (((KR6.out.alloc _).twin ⟨rfl, rfl, rfl, rfl⟩).mono (fun _ _ e => e.elim)) | exact SS.out _ ((((KR6.out.alloc _).alloc _).twin ⟨rfl, rfl, rfl, rfl⟩).mono (fun _ _ e => e.elim)) | exact SS.out _ (((((KR6.out.alloc _).alloc _).alloc _).twin ⟨rfl, rfl, rfl, rfl⟩).mono (fun _ _ e => e.elim)) | exact SS.out _ (kF ((Kept.one_alloc wr _).twin (twin_drew _)))
        clear hKC KC
        try simp only [Act.put, List.setIfInBounds_toArray, List.set_cons_zero, List.set_cons_succ]
        refine heldE_take 10 (oi := _) (v := ?_) rfl (by kernel_rfl) (by kernel_rfl) (by kernel_rfl) (by kernel_rfl) (fun _ _ _ h => h) (by rfl) (fun w hSw => ?_) (by assumption) ?_
        rotate_left
        · (try dsimp only at hSw); go_simp; try with_reducible rfl
        try simp only [Act.put, List.setIfInBounds_toArray, List.set_cons_zero, List.set_cons_succ]
        refine wpAnyE_ready (rs := [11]) (by kernel_rfl) (by simp) ?_
        refine heldE_cons 11 (o := _) rfl (fun KC hKC => ?_) AllReadyE.nil
        go_simp
        refine hKC.out _ _ ?_ (fun hHeld => ?_)
        · first | exact SS.out _ (((((KR6.out.alloc _).alloc _).alloc _).mono (fun _ _ e => e.elim)).trans K7.out (fun b hb e => ⟨(HA.out.apart b e).1, (HA.out.apart b e).2.1⟩)) | exact SS.out _ ((((KR6.out.alloc _).alloc _).mono (fun _ _ e => e.elim)).trans K7.out (fun b hb e => ⟨(HA.out.apart b e).1, (HA.out.apart b e).2.1⟩)) | exact SS.out _ ((KR6.out.twin ⟨rfl, rfl, rfl, rfl⟩).mono (fun _ _ e => e.elim)) | exact SS.out _ (((KR6.out.alloc _).twin ⟨rfl, rfl, rfl, rfl⟩).mono (fun _ _ e => e.elim)) | exact SS.out _ ((((KR6.out.alloc _).alloc _).twin ⟨rfl, rfl, rfl, rfl⟩).mono (fun _ _ e => e.elim)) | exact SS.out _ (((((KR6.out.alloc _).alloc _).alloc _).twin ⟨rfl, rfl, rfl, rfl⟩).mono (fun _ _ e => e.elim)) | exact SS.out _ (kF ((Kept.one_alloc wr _).twin (twin_drew _)))
        clear hKC KC
        try simp only [Act.put, List.setIfInBounds_toArray, List.set_cons_zero, List.set_cons_succ]
        refine wpAnyE_ready (rs := [12]) (by kernel_rfl) (by simp) ?_
        refine heldE_cons 12 (o := _) rfl (fun KC hKC => ?_) AllReadyE.nil
        go_simp
        refine hKC.out _ _ ?_ (fun hHeld => ?_)
        · first | exact SS.out _ (((((KR6.out.alloc _).alloc _).alloc _).mono (fun _ _ e => e.elim)).trans K7.out (fun b hb e => ⟨(HA.out.apart b e).1, (HA.out.apart b e).2.1⟩)) | exact SS.out _ ((((KR6.out.alloc _).alloc _).mono (fun _ _ e => e.elim)).trans K7.out (fun b hb e => ⟨(HA.out.apart b e).1, (HA.out.apart b e).2.1⟩)) | exact SS.out _ ((KR6.out.twin ⟨rfl, rfl, rfl, rfl⟩).mono (fun _ _ e => e.elim)) | exact SS.out _ (((KR6.out.alloc _).twin ⟨rfl, rfl, rfl, rfl⟩).mono (fun _ _ e => e.elim)) | exact SS.out _ ((((KR6.out.alloc _).alloc _).twin ⟨rfl, rfl, rfl, rfl⟩).mono (fun _ _ e => e.elim)) | exact SS.out _ (((((KR6.out.alloc _).alloc _).alloc _).twin ⟨rfl, rfl, rfl, rfl⟩).mono (fun _ _ e => e.elim)) | exact SS.out _ (kF ((Kept.one_alloc wr _).twin (twin_drew _)))
        clear hKC KC
        try simp only [Act.put, List.setIfInBounds_toArray, List.set_cons_zero, List.set_cons_succ]
        refine wpAnyE_ready (rs := [13]) (by kernel_rfl) (by simp) ?_
        refine heldE_cons 13 (o := _) rfl (fun KC hKC => ?_) AllReadyE.nil
        refine step_append_mine rfl (.tmp 29) (.tmp 37) rentE rfl rfl (ownsRow_kept HA.out.own (by first | exact ((KR6.out.alloc _).alloc _).alloc _ | exact (KR6.out.alloc _).alloc _) (fun _ _ e => e)) (some ⟨_, 0, none⟩) 1 1 [.pointer (some ⟨_, 0, none⟩)] rfl rfl (holds_new1 _ _ _ (by simp)) (by simp [Value.oneCell']) (by unfold maxLen; omega) (by omega) ?_
        intro a3 c3 w7 own7 k7 b7
        obtain ⟨hc7, hf7⟩ := rn_after HA.out (by first | exact ((KR6.out.alloc _).alloc _).alloc _ | exact (KR6.out.alloc _).alloc _) k7
        have OWN7 := Lib.hid own7
        have K7 := Lib.hid k7
        have B7 := Lib.hid b7
        clear own7 k7 b7
        refine hKC.out _ _ ?_ (fun hHeld => ?_)
        · first | exact SS.out _ (((((KR6.out.alloc _).alloc _).alloc _).mono (fun _ _ e => e.elim)).trans K7.out (fun b hb e => ⟨(HA.out.apart b e).1, (HA.out.apart b e).2.1⟩)) | exact SS.out _ ((((KR6.out.alloc _).alloc _).mono (fun _ _ e => e.elim)).trans K7.out (fun b hb e => ⟨(HA.out.apart b e).1, (HA.out.apart b e).2.1⟩)) | exact SS.out _ ((KR6.out.twin ⟨rfl, rfl, rfl, rfl⟩).mono (fun _ _ e => e.elim)) | exact SS.out _ (((KR6.out.alloc _).twin ⟨rfl, rfl, rfl, rfl⟩).mono (fun _ _ e => e.elim)) | exact SS.out _ ((((KR6.out.alloc _).alloc _).twin ⟨rfl, rfl, rfl, rfl⟩).mono (fun _ _ e => e.elim)) | exact SS.out _ (((((KR6.out.alloc _).alloc _).alloc _).twin ⟨rfl, rfl, rfl, rfl⟩).mono (fun _ _ e => e.elim)) | exact SS.out _ (kF ((Kept.one_alloc wr _).twin (twin_drew _)))
        clear hKC KC
        try simp only [Act.put, List.setIfInBounds_toArray, List.set_cons_zero, List.set_cons_succ]
        refine wpAnyE_ready (rs := [14]) (by kernel_rfl) (by simp) ?_
        refine heldE_cons 14 (o := _) rfl (fun KC hKC => ?_) AllReadyE.nil
        go_simp
        refine hKC.out _ _ ?_ (fun hHeld => ?_)
        · first | exact SS.out _ (((((KR6.out.alloc _).alloc _).alloc _).mono (fun _ _ e => e.elim)).trans K7.out (fun b hb e => ⟨(HA.out.apart b e).1, (HA.out.apart b e).2.1⟩)) | exact SS.out _ ((((KR6.out.alloc _).alloc _).mono (fun _ _ e => e.elim)).trans K7.out (fun b hb e => ⟨(HA.out.apart b e).1, (HA.out.apart b e).2.1⟩)) | exact SS.out _ ((KR6.out.twin ⟨rfl, rfl, rfl, rfl⟩).mono (fun _ _ e => e.elim)) | exact SS.out _ (((KR6.out.alloc _).twin ⟨rfl, rfl, rfl, rfl⟩).mono (fun _ _ e => e.elim)) | exact SS.out _ ((((KR6.out.alloc _).alloc _).twin ⟨rfl, rfl, rfl, rfl⟩).mono (fun _ _ e => e.elim)) | exact SS.out _ (((((KR6.out.alloc _).alloc _).alloc _).twin ⟨rfl, rfl, rfl, rfl⟩).mono (fun _ _ e => e.elim)) | exact SS.out _ (kF ((Kept.one_alloc wr _).twin (twin_drew _)))
        clear hKC KC
        try simp only [Act.put, List.setIfInBounds_toArray, List.set_cons_zero, List.set_cons_succ]
        refine heldE_take 15 (oi := _) (v := ?_) rfl (by kernel_rfl) (by kernel_rfl) (by kernel_rfl) (by kernel_rfl) (fun _ _ _ h => h) (by rfl) (fun w hSw => ?_) (by assumption) ?_
        rotate_left
        · (try dsimp only at hSw); go_simp; try with_reducible rfl
        try simp only [Act.put, List.setIfInBounds_toArray, List.set_cons_zero, List.set_cons_succ]
        refine wpAnyE_ready (rs := [16]) (by kernel_rfl) (by simp) ?_
        refine heldE_last (o := _) rfl (fun KC hKC => ?_) AllReadyE.nil
        go_simp
        refine hKC.out _ _ ?_
        clear hKC KC
        try simp only [Act.put, List.setIfInBounds_toArray, List.set_cons_zero, List.set_cons_succ]
        refine wpAnyE_done (by kernel_rfl) (NoPanic.normal ?_) _
        go_wp2_with fail
        go_roundw
        case rel => exact ⟨i + 1, _, rn_ex HA.out (by first | exact KR6.out.alloc _ | exact KR6.out) (by first | exact HOZ.out w6 | exact ownsRow_kept (w := (wr.alloc (.cells Z 5)).drew) (HOZ.out wr) K6.out (fun _ _ e => e)) (by first | exact KR6.out.size | exact Nat.le_refl _) (by simp) OWN7.out K7.out B7.out (by omega)⟩
        case measure => simp [intOf]; omega
    · obtain rfl : i = N := by omega
      go_wp2_with fail
      go_ret2
      exact ⟨bt, _, E, rfl, w1, K1.out, HA.out⟩
theorem rnew_wrong (hs : nm.size ≤ 9223372036854775807) (hr : rightB nm kd ks vs mx = false) : Calls Tryz.prog 34 #[.agg #[.string nm, .int .i64 kd, .int .i64 ks, .int .i64 vs, .int .i64 mx]] W fun e w' => e = .returned (.tuple #[.pointer none, .int .i64 1]) ∧ Kept (fun _ => False) W w' := by
  have HR := Lib.hid hr
  have K0 := Lib.hid (Kept.one_alloc W (.cells #[.string nm, .int .i64 kd, .int .i64 ks, .int .i64 vs, .int .i64 mx] 25))
  clear hr
  go_enter Tryz.func34, Tryz.ntmps34
  go_wp2_with fail
  refine (rright_any nm hs kd ks vs mx _).mono ?_
  rintro e w1 ⟨rfl, k1⟩
  rw [HR.out]
  have K1 := Lib.hid (K0.out.trans k1 (fun _ _ e => e))
  clear k1
  go_wp2_with fail
  go_ret2
  exact ⟨rfl, K1.out⟩
set_option maxRecDepth 100000 in
set_option maxHeartbeats 1000000 in
theorem rnew_none (hs : nm.size ≤ 9223372036854775807) (hr : rightB nm kd ks vs mx = true) (hk : kd ≠ 1) : Calls Tryz.prog 34 #[.agg #[.string nm, .int .i64 kd, .int .i64 ks, .int .i64 vs, .int .i64 mx]] W fun e w' => ∃ bt, e = .returned (.tuple #[.pointer (some ⟨bt, 0, none⟩), .int .i64 0]) ∧ W.heap.size ≤ bt ∧ RT w' bt ⟨nm, kd, ks, vs, mx⟩ (.slice none 0 0) [] ∧ Kept (fun _ => False) W w' := by
  have HR := Lib.hid hr
  have h3 := (rightB_iff _ _ _ _ _).1 hr
  have K0 := Lib.hid (Kept.one_alloc W (.cells #[.string nm, .int .i64 kd, .int .i64 ks, .int .i64 vs, .int .i64 mx] 25))
  have hkd : ¬ (kd = 1) := hk
  have hmx : (0 : Int) < mx := by omega
  clear hr h3
  go_enter Tryz.func34, Tryz.ntmps34
  go_wp2_with fail
  refine (rright_any nm hs kd ks vs mx _).mono ?_
  rintro e w1 ⟨rfl, k1⟩
  rw [HR.out]
  generalize hw0 : W.alloc (.cells #[.string nm, .int .i64 kd, .int .i64 ks, .int .i64 vs, .int .i64 mx] 25) = W0 at *
  have hz : W0.heap[W.heap.size]? = some (.cells #[.string nm, .int .i64 kd, .int .i64 ks, .int .i64 vs, .int .i64 mx] 25 (0, 0)) := by rw [← hw0]; exact heap_alloc_new W _
  have hlt : W.heap.size < W0.heap.size := by rw [← hw0]; simp
  clear hw0
  have K1 := Lib.hid (K0.out.trans k1 (fun _ _ e => e))
  generalize hq : W.heap.size = q at *
  have c0 : w1.cell? ⟨q, 0, none⟩ = some (.string nm) := (k1.cell (p := ⟨q, 0, none⟩) hlt (fun e => e)).trans (by simp [World.cell?, hz])
  have c1 : w1.cell? ⟨q, 1, none⟩ = some (.int .i64 kd) := (k1.cell (p := ⟨q, 1, none⟩) hlt (fun e => e)).trans (by simp [World.cell?, hz])
  have c2 : w1.cell? ⟨q, 2, none⟩ = some (.int .i64 ks) := (k1.cell (p := ⟨q, 2, none⟩) hlt (fun e => e)).trans (by simp [World.cell?, hz])
  have c3 : w1.cell? ⟨q, 3, none⟩ = some (.int .i64 vs) := (k1.cell (p := ⟨q, 3, none⟩) hlt (fun e => e)).trans (by simp [World.cell?, hz])
  have c4 : w1.cell? ⟨q, 4, none⟩ = some (.int .i64 mx) := (k1.cell (p := ⟨q, 4, none⟩) hlt (fun e => e)).trans (by simp [World.cell?, hz])
  have hq1 : q < w1.heap.size := Nat.lt_of_lt_of_le hlt k1.size
  have HQ := Lib.hid hq
  clear k1 hz hlt hq
  go_wp2_with fail
  obtain ⟨bt, hbt⟩ : ∃ bt, w1.heap.size = bt := ⟨_, rfl⟩
  obtain ⟨W2, hW2⟩ : ∃ W2, W2 = w1.alloc (.cells #[.string nm, .int .i64 kd, .int .i64 ks, .int .i64 vs, .int .i64 mx, .slice none 0 0] 105) := ⟨_, rfl⟩
  have k12 : Kept (fun _ => False) w1 W2 := by rw [hW2]; exact Kept.one_alloc w1 _
  have hz2 : W2.heap[bt]? = some (.cells #[.string nm, .int .i64 kd, .int .i64 ks, .int .i64 vs, .int .i64 mx, .slice none 0 0] 105 (0, 0)) := by rw [hW2, ← hbt]; exact heap_alloc_new w1 _
  have hRT : RT W2 bt ⟨nm, kd, ks, vs, mx⟩ (.slice none 0 0) [] := by
    refine ⟨HR.out, ⟨_, _, hz2, rfl⟩, by simp [World.cell?, hz2], by simp [World.cell?, hz2], by simp [World.cell?, hz2], by simp [World.cell?, hz2], by simp [World.cell?, hz2], by simp [World.cell?, hz2], World.ownsRow_nil _ _ _ _, by simp [Value.ownBlock], fun _ h => (by cases h), fun _ h => (by cases h), List.nodup_nil, List.nodup_nil, fun _ h => (by simp [Value.ownBlock] at h), fun _ h => (by cases h), ?_, fun e => absurd e hk, fun _ => List.Pairwise.nil⟩
    show ((0 : Nat) : Int) ≤ mx
    omega
  have d1 := (k12.cell (p := ⟨q, 1, none⟩) hq1 (fun e => e)).trans c1
  have d4 := (k12.cell (p := ⟨q, 4, none⟩) hq1 (fun e => e)).trans c4
  have R0 := Lib.hid (And.intro hRT (K1.out.trans k12 (fun _ _ e => e)))
  have hbl : W.heap.size ≤ bt := by rw [← hbt]; exact K1.out.size
  have HB := Lib.hid hbl
  rw [← hW2, hbt]
  clear hRT k12 hz2 hW2 hbt c0 c1 c2 c3 c4 hbl
  go_loopw [6] (fun ix wr => ix = .int .i64 0 ∧ wr = W2) (fun ix _ => 0)
  case atStart => exact ⟨rfl, rfl⟩
  case round =>
    obtain ⟨rfl, rfl⟩ := hrel
    go_wp2_with fail
    go_ret2
    exact ⟨_, rfl, HB.out, R0.out⟩
/-- New. -/
theorem rnew_any (m : TM) (hs : m.nm.size ≤ 9223372036854775807) : Calls Tryz.prog 34 #[m.v] W fun e w' => (m.right = false ∧ e = .returned (.tuple #[.pointer none, .int .i64 1]) ∧ Kept (fun _ => False) W w') ∨
    (m.right = true ∧ ∃ bt lv E, e = .returned (.tuple #[.pointer (some ⟨bt, 0, none⟩), .int .i64 0]) ∧ RT w' bt m lv E ∧ kvs E = newP m ∧ (∀ b, Rtfp bt lv E b → W.heap.size ≤ b) ∧ Kept (fun _ => False) W w') := by
  cases hr : m.right with
  | false =>
    refine (rnew_wrong (nm := m.nm) (kd := m.kd) (ks := m.ks) (vs := m.vs) (mx := m.mx) hs hr).mono ?_
    rintro e w' ⟨rfl, k⟩
    exact .inl ⟨rfl, rfl, k⟩
  | true =>
    have h3 := (rightB_iff _ _ _ _ _).1 hr
    obtain ⟨nm, kd, ks, vs, mx⟩ := m
    simp only at h3 hs
    by_cases h1 : kd = 1
    · subst h1
      obtain rfl : ks = 4 := h3.2.2.2.2.2.1 rfl
      obtain ⟨V, rfl⟩ : ∃ V : Nat, vs = V := ⟨vs.toNat, by omega⟩
      obtain ⟨N, rfl⟩ : ∃ N : Nat, mx = N := ⟨mx.toNat, by omega⟩
      refine (rnew_arr (W := W) hs hr).mono ?_
      rintro e w' ⟨bt, lv, E, rfl, W1, k1, hm⟩
      refine .inr ⟨rfl, bt, lv, E, rfl, rn_rt hr (by omega) hm, ?_, ?_, k1.trans hm.back (fun _ _ e => e)⟩
      · unfold newP
        rw [if_pos (show (1 : Int) = 1 from rfl)]
        show kvs E = (List.range (N : Int).toNat).map fun i => (numK i, zeroB (V : Int).toNat)
        unfold kvs
        rw [Int.toNat_natCast, Int.toNat_natCast, show (fun i => (numK i, zeroB V)) = (fun k => (k, zeroB V)) ∘ numK from rfl, ← List.map_map, ← hm.keys, List.map_map]
        refine List.map_congr_left fun x hx => ?_
        simp only [Function.comp, hm.data x hx]
      · have := k1.size
        rintro b (rfl | hb | ⟨x, hx, hb⟩)
        · have := hm.btl; omega
        · have := (hm.apart b hb).1; omega
        · have := (hm.en x hx).2.1
          have := (hm.en x hx).2.2.1
          rcases hb with rfl | rfl <;> omega
    · refine (rnew_none (W := W) hs hr h1).mono ?_
      rintro e w' ⟨bt, rfl, hbl, hT, k⟩
      refine .inr ⟨rfl, bt, _, [], rfl, hT, ?_, ?_, k⟩
      · unfold newP
        rw [if_neg h1]
        rfl
      · rintro b (rfl | hb | ⟨x, hx, -⟩)
        · exact hbl
        · simp [Value.ownBlock] at hb
        · cases hx
end
end Go.Proofs.YtjkgimloafpipaaGreat
