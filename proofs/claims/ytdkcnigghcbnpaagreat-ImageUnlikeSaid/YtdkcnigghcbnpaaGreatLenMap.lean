/- Len and Map, whatever the kind. -/
import Derived.Test.YtdkcnigghcbnpaaGreatTblC
import Derived.Deep.CutBlock
import Derived.Handy
namespace Go.Proofs.YtdkcnigghcbnpaaGreat
set_option linter.unusedVariables false
set_option linter.unusedSimpArgs false
open Go.RowKit Go.MapKept

section
variable {W W' : World} {bt : Nat} {m : TM} {iv : Value} {E E' : List En} {F F' : Nat → Prop} {a va : Option Addr} {n c vn vc : Nat} {k v : ByteArray} {fl : Int}

set_option maxRecDepth 100000 in
theorem len_of (T fs : Nat) (r : Value) (N : Nat) (hc5 : W.cell? ⟨bt, 5, none⟩ = some (.iface T r)) (hm : ∀ n w, (method (n + 1) T r "swingbridge/table.size").run Tryz.prog w = .ok (fs, r) w) (eg : ∀ args w, (callFunc fs args).run Tryz.prog w = .ok (.enter fs args) w)
    (hs : Calls Tryz.prog fs #[r] W fun e w' => e = .returned (.int .i64 N) ∧ Kept (fun _ => False) W w') : Calls Tryz.prog 20 #[.pointer (some ⟨bt, 0, none⟩)] W fun e w' => e = .returned (.int .i64 N) ∧ Kept (fun _ => False) W w' := by
  have HS := Lib.hid hs
  clear hs
  go_enter Tryz.func20, Tryz.ntmps20
  go_wp2_with fail
  refine HS.out.mono ?_
  rintro e w1 ⟨rfl, k1⟩
  have K1 := Lib.hid k1
  clear k1 HS
  go_wp2_with fail
  go_ret
  exact ⟨rfl, K1.out⟩
theorem len_any (h : Tb W bt m iv E F) : Calls Tryz.prog 20 #[.pointer (some ⟨bt, 0, none⟩)] W fun e w' => e = .returned (.int .i64 (E.length : Nat)) ∧ Kept (fun _ => False) W w' := by
  obtain ⟨T, fu, fp, fa, fd, fs, r, O⟩ := ops_of h
  exact len_of T fs r E.length (by rw [← O.e]; exact h.c5) O.s.m O.s.e (O.size h)

set_option maxRecDepth 100000 in
theorem map_of (nm : ByteArray) (kd ks vs mx : Int) (hb : bt < W.heap.size) (c0 : W.cell? ⟨bt, 0, none⟩ = some (.string nm)) (c1 : W.cell? ⟨bt, 1, none⟩ = some (.int .i64 kd)) (c2 : W.cell? ⟨bt, 2, none⟩ = some (.int .i64 ks)) (c3 : W.cell? ⟨bt, 3, none⟩ = some (.int .i64 vs)) (c4 : W.cell? ⟨bt, 4, none⟩ = some (.int .i64 mx)) :
    Calls Tryz.prog 19 #[.pointer (some ⟨bt, 0, none⟩)] W fun e w' => e = .returned (.agg #[.string nm, .int .i64 kd, .int .i64 ks, .int .i64 vs, .int .i64 mx]) ∧ Kept (fun _ => False) W w' := by
  have hne := Nat.ne_of_lt hb
  have HB := Lib.hid hb
  clear hb
  have k0 := Kept.one_alloc W (.cells #[.string ⟨#[]⟩, .int .i64 0, .int .i64 0, .int .i64 0, .int .i64 0] 35)
  have d0 := (k0.cell (p := ⟨bt, 0, none⟩) HB.out (fun e => e)).trans c0
  have d1 := (k0.cell (p := ⟨bt, 1, none⟩) HB.out (fun e => e)).trans c1
  have d2 := (k0.cell (p := ⟨bt, 2, none⟩) HB.out (fun e => e)).trans c2
  have d3 := (k0.cell (p := ⟨bt, 3, none⟩) HB.out (fun e => e)).trans c3
  have d4 := (k0.cell (p := ⟨bt, 4, none⟩) HB.out (fun e => e)).trans c4
  have K0 := Lib.hid k0
  clear k0 c0 c1 c2 c3 c4
  go_enter Tryz.func19, Tryz.ntmps19
  go_upto_region 1 with fail
  generalize hw1 : W.alloc (.cells #[.string ⟨#[]⟩, .int .i64 0, .int .i64 0, .int .i64 0, .int .i64 0] 35) = W1 at *
  have hz : W1.heap[W.heap.size]? = some (.cells #[.string ⟨#[]⟩, .int .i64 0, .int .i64 0, .int .i64 0, .int .i64 0] 35 (0, 0)) := by rw [← hw1]; exact heap_alloc_new W _
  clear hw1
  generalize hq : W.heap.size = q at *
  have HQ := Lib.hid hq
  clear hq
  have r0 : W1.cell? ⟨q, 0, none⟩ = some (.string ⟨#[]⟩) := by simp [World.cell?, hz]
  have r1 : W1.cell? ⟨q, 1, none⟩ = some (.int .i64 0) := by simp [World.cell?, hz]
  have r2 : W1.cell? ⟨q, 2, none⟩ = some (.int .i64 0) := by simp [World.cell?, hz]
  have r3 : W1.cell? ⟨q, 3, none⟩ = some (.int .i64 0) := by simp [World.cell?, hz]
  have r4 : W1.cell? ⟨q, 4, none⟩ = some (.int .i64 0) := by simp [World.cell?, hz]
  have fz : ∀ o, W1.frozen? ⟨q, o, none⟩ = false := fun o => by simp [World.frozen?, hz]
  have HZ := Lib.hid hz
  clear hz
  go_wp2_with fail
  refine bodyPost_ret (results_cell_row (ty := 35) (p := 2) rfl _ _ q 35 #[.string nm, .int .i64 kd, .int .i64 ks, .int .i64 vs, .int .i64 mx] (0, 0) _ rfl ?_ Tryz.underlying35 rfl (by kernel_rfl)) rfl ⟨rfl, ?_⟩
  · have hz := HZ.out
    simp [World.setCell, Array.getElem?_modify, hz]
  have kc : ∀ (w : World) (o : Nat) (v : Value), Kept (fun b => W.heap.size ≤ b) w (w.setCell ⟨q, o, none⟩ v) := fun w o v => (Kept.one_set w ⟨q, o, none⟩ v).mono (fun b _ e => by have := HQ.out; simp at e; omega)
  exact ((((((K0.out.mono (fun _ _ e => e.elim)).trans (kc _ 0 _) (fun _ _ e => e)).trans (kc _ 1 _) (fun _ _ e => e)).trans (kc _ 2 _) (fun _ _ e => e)).trans (kc _ 3 _) (fun _ _ e => e)).trans (kc _ 4 _) (fun _ _ e => e)).none
theorem map_any (h : Tb W bt m iv E F) : Calls Tryz.prog 19 #[.pointer (some ⟨bt, 0, none⟩)] W fun e w' => e = .returned m.v ∧ Kept (fun _ => False) W w' :=
  map_of m.nm m.kd m.ks m.vs m.mx h.row.lt h.c0 h.c1 h.c2 h.c3 h.c4
end
end Go.Proofs.YtdkcnigghcbnpaaGreat
