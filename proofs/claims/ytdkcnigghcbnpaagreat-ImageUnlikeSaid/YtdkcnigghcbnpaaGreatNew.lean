/- New: arrays; whatever the map. -/
import Derived.Test.YtdkcnigghcbnpaaGreatNew0
import Derived.Test.YtdkcnigghcbnpaaGreatTblC
import Derived.Laws.OwnMore
namespace Go.Proofs.YtdkcnigghcbnpaaGreat
set_option linter.unusedVariables false
set_option linter.unusedSimpArgs false
open Go.RowKit Go.MapKept

theorem entE : Elem Tryz.prog 168 41 (.pointer none) 1 8 := ⟨Tryz.underlying168, by kernel_rfl, rfl, by omega⟩
def zeroB (V : Nat) : ByteArray := ⟨Array.replicate V 0⟩
theorem zeroB_size (V : Nat) : (zeroB V).size = V := by
  show (Array.replicate V (0 : UInt8)).size = V
  simp
theorem zeroB_vs (V : Nat) : byteVs (zeroB V) = List.replicate V (.int .u8 0) := by
  unfold byteVs nums zeroB
  simp
theorem made_zero (V : Nat) : (madeCells (Value.int .u8 0).cells (V * 1)).toList = byteVs (zeroB V) := by
  rw [zeroB_vs]
  refine List.ext_getElem? fun i => ?_
  rw [List.getElem?_replicate]
  unfold madeCells
  simp only [Value.cells, Array.getElem?_toList, Array.getElem?_map, Nat.mul_one]
  by_cases h : i < V
  · simp [h, Nat.mod_one]
  · simp [h]

/-- The entries of an array that is in the making. -/
structure ArrB (B : Nat) (W : World) (V : Nat) (i : Nat) (sv : Value) (E : List En) : Prop where
  own : W.ownsRow 0 41 1 sv i (E.map fun x => .pointer (some ⟨x.b, 0, none⟩))
  keys : E.map (·.key) = (List.range i).map numK
  en : ∀ x ∈ E, EnAt W x ∧ B ≤ x.b ∧ B ≤ x.d
  data : ∀ x ∈ E, x.data = zeroB V
  blocks : (E.flatMap fun x => [x.b, x.d]).Nodup
  apart : ∀ b, sv.ownBlock = some b → B ≤ b ∧ ∀ x ∈ E, b ≠ x.b ∧ b ≠ x.d

theorem arrB_none (B : Nat) (W : World) (V : Nat) : ArrB B W V 0 (.slice none 0 0) [] :=
  ⟨World.ownsRow_nil _ _ _ _, rfl, fun _ h => (by cases h), fun _ h => (by cases h), List.nodup_nil, fun _ h => (by cases h)⟩
theorem arrB_next {B : Nat} {W w1 w6 : World} {V i : Nat} {sv sv' : Value} {E : List En} {y : En} (h : ArrB B W V i sv E) (hB : B ≤ W.heap.size) (k1 : Kept (fun _ => False) W w1) (hy : EnAt w1 y) (hb : W.heap.size ≤ y.b) (hd : W.heap.size ≤ y.d) (hne : y.d ≠ y.b)
    (hk : y.key = numK i) (hv : y.data = zeroB V) (own6 : w6.ownsRow 0 41 1 sv' (i + 1) ((E.map fun x => .pointer (some ⟨x.b, 0, none⟩)) ++ [.pointer (some ⟨y.b, 0, none⟩)])) (k6 : Kept (fun b => sv.ownBlock = some b) w1 w6)
    (b6 : sv'.ownBlock = sv.ownBlock ∨ sv'.ownBlock = some w1.heap.size) : ArrB B w6 V (i + 1) sv' (E ++ [y]) := by
  have hz := k1.size
  have hol : ∀ b, sv.ownBlock = some b → b < W.heap.size := fun b e => (h.own.lt b e).2
  have hyb := hy.row.lt
  have hyd := hy.drow.lt
  have hyn : ¬ sv.ownBlock = some y.b ∧ ¬ sv.ownBlock = some y.d := ⟨fun e => by have := hol _ e; omega, fun e => by have := hol _ e; omega⟩
  refine ⟨by rw [List.map_append]; exact own6, by rw [List.map_append, h.keys, List.range_succ, List.map_append, List.map_cons, List.map_nil, List.map_cons, List.map_nil, hk], ?_, ?_, ?_, ?_⟩
  · intro x hx
    rcases List.mem_append.1 hx with hx | hx
    · have he := h.en x hx
      exact ⟨(he.1.kept k1 (fun e => e) (fun e => e)).kept k6 (fun e => ((h.apart _ e).2 x hx).1 rfl) (fun e => ((h.apart _ e).2 x hx).2 rfl), he.2⟩
    · rw [List.mem_singleton] at hx
      subst hx
      exact ⟨hy.kept k6 hyn.1 hyn.2, by omega, by omega⟩
  · intro x hx
    rcases List.mem_append.1 hx with hx | hx
    · exact h.data x hx
    · rw [List.mem_singleton] at hx
      subst hx
      exact hv
  · rw [List.flatMap_append, List.nodup_append]
    refine ⟨h.blocks, by simpa using fun e => hne e.symm, ?_⟩
    intro a ha b hb' e
    obtain ⟨x, hx, ha⟩ := List.mem_flatMap.1 ha
    have l1 := (h.en x hx).1.row.lt
    have l2 := (h.en x hx).1.drow.lt
    simp only [List.flatMap_cons, List.flatMap_nil, List.append_nil, List.mem_cons, List.not_mem_nil, or_false] at ha hb'
    omega
  · intro b hb'
    rcases b6 with e | e
    · rw [e] at hb'
      have h1 := h.apart b hb'
      have h2 := hol b hb'
      refine ⟨h1.1, fun x hx => ?_⟩
      rcases List.mem_append.1 hx with hx | hx
      · exact h1.2 x hx
      · rw [List.mem_singleton] at hx
        subst hx
        omega
    · rw [e] at hb'
      have hb' := Option.some.inj hb'
      refine ⟨by omega, fun x hx => ?_⟩
      rcases List.mem_append.1 hx with hx | hx
      · have l1 := (h.en x hx).1.row.lt
        have l2 := (h.en x hx).1.drow.lt
        omega
      · rw [List.mem_singleton] at hx
        subst hx
        omega

theorem make_bytes (V : Nat) (hV : V ≤ 100000) (w : World) : (Instr.makeSlice 28 (.int .i64 (V : Int)) (.int .i64 (V : Int))).run Tryz.prog w = .ok (.slice (some ⟨w.heap.size, 0, none⟩) V V) (w.alloc (.cells (madeCells (Value.int .u8 0).cells (V * 1)) 5)) := by
  obtain ⟨i, hi, e⟩ := Option.map_eq_some_iff.1 byteE.hi
  simp only [Prod.mk.injEq] at e
  obtain ⟨e1, e2, e3⟩ := e
  have := run_make (P := Tryz.prog) w 28 5 i (.int .u8 0) Tryz.underlying28 hi e1 .i64 .i64 V V (by omega) (Int.le_refl _) (by rw [e3]; simp; omega) (by omega)
  rw [e2] at this
  simpa using this
theorem own_zero (V : Nat) (hV : V ≤ 100000) (w : World) : (w.alloc (.cells (madeCells (Value.int .u8 0).cells (V * 1)) 5)).ownsRow 0 5 1 (.slice (some ⟨w.heap.size, 0, none⟩) V V) V (byteVs (zeroB V)) := by
  rw [← made_zero]
  exact World.ownsRow_lit w _ V (Nat.zero_le _) (by unfold maxLen; omega) (size_madeCells _ _)
theorem holds_new1 (w : World) (v : Value) (t : TypeId) {n : Nat} (hn : n = w.heap.size) : Holds9 (w.alloc (.cells #[v] t)) (some ⟨n, 0, none⟩) [v] := by
  subst hn
  exact holds_block (heap_alloc_new w (.cells #[v] t))
theorem arr_own {B : Nat} {W W' : World} {V i : Nat} {sv : Value} {E : List En} (h : ArrB B W V i sv E) (k : Kept (fun _ => False) W W') : W'.ownsRow 0 41 1 sv i (E.map fun x => .pointer (some ⟨x.b, 0, none⟩)) := ownsRow_kept h.own k (fun _ _ e => e)
theorem arr_way {B : Nat} {wr W5 w7 : World} {V i d yb : Nat} {sv sv' : Value} {E : List En} {R : Obj} (h : ArrB B wr V i sv E) (hB : B ≤ wr.heap.size) (k5 : Kept (fun _ => False) wr W5) (own5 : W5.ownsRow 0 5 1 (.slice (some ⟨d, 0, none⟩) V V) V (byteVs (zeroB V))) (hd : wr.heap.size ≤ d)
    (own7 : w7.ownsRow 0 41 1 sv' (i + 1) ((E.map fun x => .pointer (some ⟨x.b, 0, none⟩)) ++ [.pointer (some ⟨yb, 0, none⟩)])) (hyb : yb = W5.heap.size)
    (k7 : Kept (fun b => sv.ownBlock = some b) ((W5.alloc (.cells #[.string (numK i), .slice (some ⟨d, 0, none⟩) V V] 45)).alloc R) w7) (b7 : sv'.ownBlock = sv.ownBlock ∨ sv'.ownBlock = some ((W5.alloc (.cells #[.string (numK i), .slice (some ⟨d, 0, none⟩) V V] 45)).alloc R).heap.size) :
    ∃ E', ArrB B w7 V (i + 1) sv' E' ∧ Kept (fun b => B ≤ b) wr w7 := by
  subst hyb
  have kk := (k5.alloc (.cells #[.string (numK i), .slice (some ⟨d, 0, none⟩) V V] 45)).alloc R
  have he := (en_new (k := numK i) own5 (zeroB_size V).symm).kept (Kept.one_alloc _ R) (fun e => e) (fun e => e)
  have hdl := (own_row own5).lt
  have := k5.size
  refine ⟨_, arrB_next h hB kk he (by show wr.heap.size ≤ W5.heap.size; omega) hd (by show d ≠ W5.heap.size; omega) rfl rfl own7 k7 b7, (kk.mono (fun _ _ e => e.elim)).trans (k7.mono (fun b _ e => (h.apart b e).1)) (fun _ _ e => e)⟩
theorem arr_cell {B : Nat} {wr W8 w7 : World} {V i q o : Nat} {sv x : Value} {E : List En} (h : ArrB B wr V i sv E) (hq : q < B) (hqr : q < wr.heap.size) (d3 : wr.cell? ⟨q, o, none⟩ = some x) (k8 : Kept (fun _ => False) wr W8) (k7 : Kept (fun b => sv.ownBlock = some b) W8 w7) : w7.cell? ⟨q, o, none⟩ = some x :=
  (k7.cell (p := ⟨q, o, none⟩) (Nat.lt_of_lt_of_le hqr k8.size) (fun e => by have := (h.apart q e).1; omega)).trans ((k8.cell (p := ⟨q, o, none⟩) hqr (fun e => e)).trans d3)
theorem numK_nodup (n : Nat) (h : n ≤ 1000000) : ((List.range n).map numK).Nodup := by
  show List.Pairwise (· ≠ ·) _
  rw [List.pairwise_map]
  refine List.Pairwise.imp_of_mem (fun {a b} ha hb hne e => hne ?_) (List.nodup_range (n := n))
  rw [List.mem_range] at ha hb
  exact numK_inj (by omega) (by omega) e
theorem made_arr {W w1 wr : World} {nm : ByteArray} {V N : Nat} {sv : Value} {E : List En} (hr : rightB nm 1 4 (V : Int) (N : Int) = true) (hN : N ≤ 1024) (h : ArrB w1.heap.size wr V N sv E) (q1 : W.heap.size ≤ w1.heap.size) (q2 : Kept (fun _ => False) W wr) :
    Made W ⟨nm, 1, 4, V, N⟩ wr.heap.size (.iface 168 sv) E (fun b => sv.ownBlock = some b) (wr.alloc (.cells #[.string nm, .int .i64 1, .int .i64 4, .int .i64 (V : Int), .int .i64 (N : Int), .iface 168 sv] 121)) := by
  have hlen : E.length = N := by simpa using congrArg List.length h.keys
  refine tb_new (m := ⟨nm, 1, 4, V, N⟩) hr q2 ⟨fun e => (by have e : (1 : Int) = 3 := e; omega), fun e => (by have e : (1 : Int) = 2 := e; omega), fun _ => ⟨sv, rfl, by rw [hlen]; exact h.own, rfl⟩⟩ (fun b hb => ⟨Nat.le_trans q1 (h.apart b hb).1, (h.apart b hb).2⟩)
    (fun x hx => ⟨(h.en x hx).1, Nat.le_trans q1 (h.en x hx).2.1, Nat.le_trans q1 (h.en x hx).2.2⟩) (fun x hx => ⟨?_, ?_⟩) ?_ h.blocks (by show (E.length : Int) ≤ (N : Int); omega) (fun _ => ?_)
  · have : x.key ∈ E.map (·.key) := List.mem_map_of_mem hx
    rw [h.keys] at this
    obtain ⟨j, -, e⟩ := List.mem_map.1 this
    rw [← e]
    rfl
  · rw [h.data x hx, zeroB_size]
  · rw [h.keys]
    exact numK_nodup N (by omega)
  · rw [h.keys]
    show (List.range N).map numK = (List.range (N : Int).toNat).map numK
    rw [Int.toNat_natCast]

section
variable {W : World} {nm : ByteArray} {kd ks vs mx : Int}
set_option maxRecDepth 100000 in
set_option maxHeartbeats 2000000 in
theorem new_arr {V N : Nat} (hr : rightB nm 1 4 (V : Int) (N : Int) = true) : Calls Tryz.prog 43 #[.agg #[.string nm, .int .i64 1, .int .i64 4, .int .i64 (V : Int), .int .i64 (N : Int)]] W fun e w' => ∃ bt iv F E, e = .returned (.tuple #[.pointer (some ⟨bt, 0, none⟩), .int .i64 0]) ∧ (∀ x ∈ E, x.data = zeroB V) ∧ Made W ⟨nm, 1, 4, V, N⟩ bt iv E F w' := by
  have k0 := Kept.one_alloc W (.cells #[.string nm, .int .i64 1, .int .i64 4, .int .i64 (V : Int), .int .i64 (N : Int)] 35)
  have K0 := Lib.hid k0
  have HR := Lib.hid hr
  have h3 := (rightB_iff _ _ _ _ _).1 hr
  have hV : V ≤ 256 := by omega
  have hN : N ≤ 1024 := by omega
  clear k0 hr h3
  go_enter Tryz.func43, Tryz.ntmps43
  go_wp2_with fail
  refine (right_any nm 1 4 V N _).mono ?_
  rintro e w1 ⟨rfl, k1⟩
  rw [HR.out]
  generalize hw0 : W.alloc (.cells #[.string nm, .int .i64 1, .int .i64 4, .int .i64 (V : Int), .int .i64 (N : Int)] 35) = W0 at *
  have hz : W0.heap[W.heap.size]? = some (.cells #[.string nm, .int .i64 1, .int .i64 4, .int .i64 (V : Int), .int .i64 (N : Int)] 35 (0, 0)) := by rw [← hw0]; exact heap_alloc_new W _
  have hlt : W.heap.size < W0.heap.size := by rw [← hw0]; simp
  clear hw0
  have K1 := Lib.hid (K0.out.trans k1 (fun _ _ e => e))
  generalize hq : W.heap.size = q at *
  have c0 : w1.cell? ⟨q, 0, none⟩ = some (.string nm) := (k1.cell (p := ⟨q, 0, none⟩) hlt (fun e => e)).trans (by simp [World.cell?, hz])
  have c1 : w1.cell? ⟨q, 1, none⟩ = some (.int .i64 1) := (k1.cell (p := ⟨q, 1, none⟩) hlt (fun e => e)).trans (by simp [World.cell?, hz])
  have c2 : w1.cell? ⟨q, 2, none⟩ = some (.int .i64 4) := (k1.cell (p := ⟨q, 2, none⟩) hlt (fun e => e)).trans (by simp [World.cell?, hz])
  have c3 : w1.cell? ⟨q, 3, none⟩ = some (.int .i64 (V : Int)) := (k1.cell (p := ⟨q, 3, none⟩) hlt (fun e => e)).trans (by simp [World.cell?, hz])
  have c4 : w1.cell? ⟨q, 4, none⟩ = some (.int .i64 (N : Int)) := (k1.cell (p := ⟨q, 4, none⟩) hlt (fun e => e)).trans (by simp [World.cell?, hz])
  have hq1 : q < w1.heap.size := Nat.lt_of_lt_of_le hlt k1.size
  have HQ := Lib.hid hq
  clear k1 hz hlt hq
  go_wp2_with fail
  go_loopw [4, 30] (fun sv ix wr => ∃ (i : Nat) (E : List En), i ≤ N ∧ ix = .int .i64 i ∧ ArrB w1.heap.size wr V i sv E ∧ Kept (fun b => w1.heap.size ≤ b) w1 wr) (fun _ ix _ => N - (intOf ix).toNat)
  case atStart => exact ⟨0, [], Nat.zero_le _, rfl, arrB_none _ _ _, .refl _ _⟩
  case round =>
    rename World => wr
    obtain ⟨i, E, hi, rfl, hA, kr⟩ := hrel
    have hn1 : ∀ o, ¬ (w1.heap.size ≤ (⟨q, o, none⟩ : Addr).block) := fun o => by show ¬ w1.heap.size ≤ q; omega
    have d0 := (kr.cell (p := ⟨q, 0, none⟩) hq1 (hn1 0)).trans c0
    have d1 := (kr.cell (p := ⟨q, 1, none⟩) hq1 (hn1 1)).trans c1
    have d2 := (kr.cell (p := ⟨q, 2, none⟩) hq1 (hn1 2)).trans c2
    have d3 := (kr.cell (p := ⟨q, 3, none⟩) hq1 (hn1 3)).trans c3
    have d4 := (kr.cell (p := ⟨q, 4, none⟩) hq1 (hn1 4)).trans c4
    have HA := Lib.hid hA
    have KR := Lib.hid kr
    have hqr : q < wr.heap.size := Nat.lt_of_lt_of_le hq1 kr.size
    clear hA kr hn1
    by_cases hlt : i < N
    · have hlt' : (i : Int) < (N : Int) := by omega
      go_upto_block 2 with fail
      go_cut [4, 5] from 32 to 42 (fun s4 s5 w' => ∃ E', ArrB w1.heap.size w' V (i + 1) s4 E' ∧ Kept (fun b => w1.heap.size ≤ b) wr w')
      case first =>
        have NUM : ∀ W', Kept (fun _ => False) wr W' → Calls Tryz.prog 73 #[.int .i64 (i : Int)] W' fun e w' => e = .returned (.string (numK i)) ∧ w'.cell? ⟨q, 3, none⟩ = some (.int .i64 (V : Int)) ∧ Kept (fun _ => False) wr w' ∧ Kept (fun _ => False) W' w' := by
          intro W' k
          refine (numbered_any i (by omega) W').mono ?_
          rintro e w' ⟨rfl, k'⟩
          exact ⟨rfl, ((k.trans k' (fun _ _ e => e)).cell (p := ⟨q, 3, none⟩) hqr (fun e => e)).trans d3, k.trans k' (fun _ _ e => e), k'⟩
        have NUMH := Lib.hid NUM
        have hmk0 := make_bytes V (by omega)
        have HOZ := Lib.hid (own_zero V (by omega))
        obtain ⟨Z, hZ⟩ : ∃ Z, Z = madeCells (Value.int .u8 0).cells (V * 1) := ⟨_, rfl⟩
        rw [← hZ] at hmk0 HOZ
        have HB := Lib.hid (show w1.heap.size ≤ wr.heap.size from KR.out.size)
        clear NUM hZ
        go_upto_region 12 with fail
        go_region_held3 (fun w' => w'.cell? ⟨q, 3, none⟩ = some (.int .i64 (V : Int))) (go_keep) (first | (go_at_call 73; refine (NUMH.out _ (by first | exact (Kept.refl _ _).twin ⟨rfl, rfl, rfl, rfl⟩ | exact ((Kept.refl _ _).alloc _).twin ⟨rfl, rfl, rfl, rfl⟩)).mono ?_; rintro e w6 ⟨rfl, hc6, kr6, k6⟩; have K6 := Lib.hid k6; have KR6 := Lib.hid kr6; clear k6 kr6) | (refine step_append_mine rfl (.tmp 33) (.tmp 41) entE rfl rfl (arr_own HA.out (by first | exact ((KR6.out.alloc _).alloc _).alloc _ | exact (KR6.out.alloc _).alloc _)) (some ⟨_, 0, none⟩) 1 1 [.pointer (some ⟨_, 0, none⟩)] rfl rfl (holds_new1 _ _ _ (by simp)) (by simp [Value.oneCell']) (by unfold maxLen; omega) (by omega) ?_; intro a3 c3 w7 own7 k7 b7; have hc7 := arr_cell HA.out hq1 hqr d3 (by first | exact ((KR6.out.alloc _).alloc _).alloc _ | exact (KR6.out.alloc _).alloc _) k7; have OWN7 := Lib.hid own7; have K7 := Lib.hid k7; have B7 := Lib.hid b7; clear own7 k7 b7))
        all_goals
          go_wp2_with fail
          go_meet
        case rel =>
          exact arr_way HA.out HB.out (KR6.out.alloc _) (HOZ.out w6) (by have := KR6.out.size; omega) OWN7.out (by simp) K7.out B7.out
        case rel =>
          exact arr_way HA.out HB.out KR6.out (ownsRow_kept (HOZ.out wr).drew K6.out (fun _ _ e => e)) (Nat.le_refl _) OWN7.out (by simp) K7.out B7.out
      case rest =>
        rename World => w8
        obtain ⟨E8, hA8, k8⟩ := hcut
        have HA8 := Lib.hid hA8
        have KK8 := Lib.hid (KR.out.trans k8 (fun _ _ e => e))
        clear hA8 k8
        go_wp2_with fail
        go_roundw
        case rel => exact ⟨i + 1, E8, by omega, by go_num, HA8.out, KK8.out⟩
        case measure => simp [intOf]; omega
    · obtain rfl : i = N := by omega
      go_wp2_with fail
      go_ret2
      exact ⟨wr.heap.size, _, _, E, rfl, HA.out.data, made_arr HR.out hN HA.out K1.out.size (K1.out.trans KR.out.none (fun _ _ e => e))⟩

/-- What New makes: whose entries. -/
def NewE (m : TM) (E : List En) : Prop := (m.kd ≠ 1 → E = []) ∧ (m.kd = 1 → ∀ x ∈ E, x.data = zeroB m.vs.toNat)
theorem new_any (m : TM) : Calls Tryz.prog 43 #[m.v] W fun e w' => (m.right = false ∧ e = .returned (.tuple #[.pointer none, .int .i64 1]) ∧ Kept (fun _ => False) W w') ∨ (m.right = true ∧ ∃ bt iv F E, e = .returned (.tuple #[.pointer (some ⟨bt, 0, none⟩), .int .i64 0]) ∧ NewE m E ∧ Made W m bt iv E F w') := by
  cases hr : m.right with
  | false =>
    refine (new_wrong (nm := m.nm) (kd := m.kd) (ks := m.ks) (vs := m.vs) (mx := m.mx) hr).mono ?_
    rintro e w' ⟨rfl, k⟩
    exact .inl ⟨rfl, rfl, k⟩
  | true =>
    have h3 := (rightB_iff _ _ _ _ _).1 hr
    obtain ⟨nm, kd, ks, vs, mx⟩ := m
    simp only at h3
    rcases (by omega : kd = 1 ∨ kd = 2 ∨ kd = 3) with rfl | rfl | rfl
    · obtain rfl : ks = 4 := h3.2.2.2.2.2.1 rfl
      obtain ⟨V, rfl⟩ : ∃ V : Nat, vs = V := ⟨vs.toNat, by omega⟩
      obtain ⟨N, rfl⟩ : ∃ N : Nat, mx = N := ⟨mx.toNat, by omega⟩
      refine (new_arr (W := W) hr).mono ?_
      rintro e w' ⟨bt, iv, F, E, rfl, hd, hm⟩
      exact .inr ⟨rfl, bt, iv, F, E, rfl, ⟨fun h => (h rfl).elim, fun _ => hd⟩, hm⟩
    · refine (new_hash (W := W) hr).mono ?_
      rintro e w' ⟨bt, iv, F, rfl, hm⟩
      exact .inr ⟨rfl, bt, iv, F, [], rfl, ⟨fun _ => rfl, fun _ _ h => (by cases h)⟩, hm⟩
    · refine (new_lru (W := W) hr).mono ?_
      rintro e w' ⟨bt, iv, F, rfl, hm⟩
      exact .inr ⟨rfl, bt, iv, F, [], rfl, ⟨fun _ => rfl, fun _ _ h => (by cases h)⟩, hm⟩
end
end Go.Proofs.YtdkcnigghcbnpaaGreat
