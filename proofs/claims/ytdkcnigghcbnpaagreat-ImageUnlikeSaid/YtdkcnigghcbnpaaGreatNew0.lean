/- New: no right map; a hash; a list. -/
import Derived.Test.YtdkcnigghcbnpaaGreatTblC
import Derived.Deep.CutBlock
import Derived.Deep.RegionHeld3
namespace Go.Proofs.YtdkcnigghcbnpaaGreat
set_option linter.unusedVariables false
set_option linter.unusedSimpArgs false
open Go.RowKit Go.MapKept

/-- A table that is made: its block and its entries' are new. -/
def Made (W : World) (m : TM) (bt : Nat) (iv : Value) (E : List En) (F : Nat → Prop) (w' : World) : Prop := Tb w' bt m iv E F ∧ (∀ b, Tfp bt E F b → W.heap.size ≤ b) ∧ Kept (fun _ => False) W w'

theorem tb_new {W w2 : World} {m : TM} {iv : Value} {E : List En} {F : Nat → Prop} (hr : m.right = true) (q : Kept (fun _ => False) W w2) (hk : KindAt w2 m iv E F) (hF : ∀ b, F b → W.heap.size ≤ b ∧ ∀ x ∈ E, b ≠ x.b ∧ b ≠ x.d)
    (hen : ∀ x ∈ E, EnAt w2 x ∧ W.heap.size ≤ x.b ∧ W.heap.size ≤ x.d) (hs : ∀ x ∈ E, (x.key.size : Int) = m.ks ∧ (x.data.size : Int) = m.vs) (hkeys : (E.map (·.key)).Nodup) (hb : (E.flatMap fun x => [x.b, x.d]).Nodup) (hlen : (E.length : Int) ≤ m.mx) (harr : m.kd = 1 → E.map (·.key) = (List.range m.mx.toNat).map numK) :
    Made W m w2.heap.size iv E F (w2.alloc (.cells #[.string m.nm, .int .i64 m.kd, .int .i64 m.ks, .int .i64 m.vs, .int .i64 m.mx, iv] 121)) := by
  have ka := Kept.one_alloc w2 (.cells #[.string m.nm, .int .i64 m.kd, .int .i64 m.ks, .int .i64 m.vs, .int .i64 m.mx, iv] 121)
  have hz := heap_alloc_new w2 (.cells #[.string m.nm, .int .i64 m.kd, .int .i64 m.ks, .int .i64 m.vs, .int .i64 m.mx, iv] 121)
  have hq := q.size
  have hFl := hk.lt hr
  have hrow := RowAt.new w2 #[.string m.nm, .int .i64 m.kd, .int .i64 m.ks, .int .i64 m.vs, .int .i64 m.mx, iv] 121
  generalize w2.alloc (.cells #[.string m.nm, .int .i64 m.kd, .int .i64 m.ks, .int .i64 m.vs, .int .i64 m.mx, iv] 121) = w3 at *
  refine ⟨⟨hr, hrow, by simp [World.cell?, hz], by simp [World.cell?, hz], by simp [World.cell?, hz], by simp [World.cell?, hz], by simp [World.cell?, hz], by simp [World.cell?, hz], hk.kept ka (fun _ _ e => e), fun x hx => (hen x hx).1.kept ka (fun e => e) (fun e => e), hs, hkeys, hb, ?_, ?_, hlen, harr⟩, ?_, q.trans ka (fun _ _ e => e)⟩
  · exact fun b hb => ⟨by have := hFl b hb; omega, (hF b hb).2⟩
  · intro x hx
    have h1 := (hen x hx).1.row.lt
    have h2 := (hen x hx).1.drow.lt
    omega
  · rintro b (rfl | hf | ⟨x, hx, rfl | rfl⟩)
    · exact hq
    · exact (hF b hf).1
    · exact (hen x hx).2.1
    · exact (hen x hx).2.2
theorem tb_new0 {W w2 : World} {m : TM} {iv : Value} {F : Nat → Prop} (hr : m.right = true) (h1 : m.kd ≠ 1) (q : Kept (fun _ => False) W w2) (hk : KindAt w2 m iv [] F) (hF : ∀ b, F b → W.heap.size ≤ b) :
    Made W m w2.heap.size iv [] F (w2.alloc (.cells #[.string m.nm, .int .i64 m.kd, .int .i64 m.ks, .int .i64 m.vs, .int .i64 m.mx, iv] 121)) := by
  have h3 := (rightB_iff _ _ _ _ _).1 hr
  exact tb_new hr q hk (fun b hb => ⟨hF b hb, fun _ h => by cases h⟩) (fun _ h => by cases h) (fun _ h => by cases h) List.nodup_nil List.nodup_nil (by simp; omega) (fun e => (h1 e).elim)

section
variable {W : World} {nm : ByteArray} {kd ks vs mx : Int}

set_option maxRecDepth 100000 in
theorem new_wrong (hr : rightB nm kd ks vs mx = false) : Calls Tryz.prog 43 #[.agg #[.string nm, .int .i64 kd, .int .i64 ks, .int .i64 vs, .int .i64 mx]] W fun e w' => e = .returned (.tuple #[.pointer none, .int .i64 1]) ∧ Kept (fun _ => False) W w' := by
  have k0 := Kept.one_alloc W (.cells #[.string nm, .int .i64 kd, .int .i64 ks, .int .i64 vs, .int .i64 mx] 35)
  have K0 := Lib.hid k0
  have HR := Lib.hid hr
  clear k0 hr
  go_enter Tryz.func43, Tryz.ntmps43
  go_wp2_with fail
  refine (right_any nm kd ks vs mx _).mono ?_
  rintro e w1 ⟨rfl, k1⟩
  rw [HR.out]
  have K1 := Lib.hid (K0.out.trans k1 (fun _ _ e => e))
  clear k1
  go_wp2_with fail
  go_ret2
  exact ⟨rfl, K1.out⟩

set_option maxRecDepth 100000 in
theorem new_hash (hr : rightB nm 2 ks vs mx = true) : Calls Tryz.prog 43 #[.agg #[.string nm, .int .i64 2, .int .i64 ks, .int .i64 vs, .int .i64 mx]] W fun e w' => ∃ bt iv F, e = .returned (.tuple #[.pointer (some ⟨bt, 0, none⟩), .int .i64 0]) ∧ Made W ⟨nm, 2, ks, vs, mx⟩ bt iv [] F w' := by
  have k0 := Kept.one_alloc W (.cells #[.string nm, .int .i64 2, .int .i64 ks, .int .i64 vs, .int .i64 mx] 35)
  have K0 := Lib.hid k0
  have HR := Lib.hid hr
  clear k0 hr
  have hmm := @run_makeMap Tryz.prog
  go_enter Tryz.func43, Tryz.ntmps43
  go_wp2_with fail
  refine (right_any nm 2 ks vs mx _).mono ?_
  rintro e w1 ⟨rfl, k1⟩
  rw [HR.out]
  generalize hw0 : W.alloc (.cells #[.string nm, .int .i64 2, .int .i64 ks, .int .i64 vs, .int .i64 mx] 35) = W0 at *
  have hz : W0.heap[W.heap.size]? = some (.cells #[.string nm, .int .i64 2, .int .i64 ks, .int .i64 vs, .int .i64 mx] 35 (0, 0)) := by rw [← hw0]; exact heap_alloc_new W _
  have hlt : W.heap.size < W0.heap.size := by rw [← hw0]; simp
  clear hw0
  have K1 := Lib.hid (K0.out.trans k1 (fun _ _ e => e))
  generalize hq : W.heap.size = q at *
  have c0 : w1.cell? ⟨q, 0, none⟩ = some (.string nm) := (k1.cell (p := ⟨q, 0, none⟩) hlt (fun e => e)).trans (by simp [World.cell?, hz])
  have c1 : w1.cell? ⟨q, 1, none⟩ = some (.int .i64 2) := (k1.cell (p := ⟨q, 1, none⟩) hlt (fun e => e)).trans (by simp [World.cell?, hz])
  have c2 : w1.cell? ⟨q, 2, none⟩ = some (.int .i64 ks) := (k1.cell (p := ⟨q, 2, none⟩) hlt (fun e => e)).trans (by simp [World.cell?, hz])
  have c3 : w1.cell? ⟨q, 3, none⟩ = some (.int .i64 vs) := (k1.cell (p := ⟨q, 3, none⟩) hlt (fun e => e)).trans (by simp [World.cell?, hz])
  have c4 : w1.cell? ⟨q, 4, none⟩ = some (.int .i64 mx) := (k1.cell (p := ⟨q, 4, none⟩) hlt (fun e => e)).trans (by simp [World.cell?, hz])
  have HQ := Lib.hid hq
  clear k1 hz hlt hq
  have hal := heap_alloc_new w1 (.map #[] 0)
  go_wp2_with fail
  go_ret2
  have q2 := K1.out.trans (Kept.one_alloc w1 (.map #[] 0)) (fun _ _ e => e)
  have hsz : (w1.alloc (.map #[] 0)).heap.size = w1.heap.size + 1 := by simp
  refine ⟨w1.heap.size + 1, .iface 162 (.map (some w1.heap.size)), fun b => b = w1.heap.size, rfl, ?_⟩
  rw [← hsz]
  have hm := tb_new0 (m := ⟨nm, 2, ks, vs, mx⟩) (iv := .iface 162 (.map (some w1.heap.size))) (F := fun b => b = w1.heap.size) HR.out (by show (2 : Int) ≠ 1; decide) q2 ⟨fun e => (by have e : (2 : Int) = 3 := e; omega), fun _ => ⟨w1.heap.size, rfl, tab_new w1, rfl⟩, fun e => (by have e : (2 : Int) = 1 := e; omega)⟩ (fun b e => by rw [e]; exact K1.out.size)
  exact hm
set_option maxRecDepth 100000 in
theorem new_lru (hr : rightB nm 3 ks vs mx = true) : Calls Tryz.prog 43 #[.agg #[.string nm, .int .i64 3, .int .i64 ks, .int .i64 vs, .int .i64 mx]] W fun e w' => ∃ bt iv F, e = .returned (.tuple #[.pointer (some ⟨bt, 0, none⟩), .int .i64 0]) ∧ Made W ⟨nm, 3, ks, vs, mx⟩ bt iv [] F w' := by
  have k0 := Kept.one_alloc W (.cells #[.string nm, .int .i64 3, .int .i64 ks, .int .i64 vs, .int .i64 mx] 35)
  have K0 := Lib.hid k0
  have HR := Lib.hid hr
  have h3 := (rightB_iff _ _ _ _ _).1 hr
  have hmx : max mx 1 = mx := by omega
  clear k0 hr h3
  go_enter Tryz.func43, Tryz.ntmps43
  go_wp2_with fail
  refine (right_any nm 3 ks vs mx _).mono ?_
  rintro e w1 ⟨rfl, k1⟩
  rw [HR.out]
  generalize hw0 : W.alloc (.cells #[.string nm, .int .i64 3, .int .i64 ks, .int .i64 vs, .int .i64 mx] 35) = W0 at *
  have hz : W0.heap[W.heap.size]? = some (.cells #[.string nm, .int .i64 3, .int .i64 ks, .int .i64 vs, .int .i64 mx] 35 (0, 0)) := by rw [← hw0]; exact heap_alloc_new W _
  have hlt : W.heap.size < W0.heap.size := by rw [← hw0]; simp
  clear hw0
  have K1 := Lib.hid (K0.out.trans k1 (fun _ _ e => e))
  generalize hq : W.heap.size = q at *
  have c0 : w1.cell? ⟨q, 0, none⟩ = some (.string nm) := (k1.cell (p := ⟨q, 0, none⟩) hlt (fun e => e)).trans (by simp [World.cell?, hz])
  have c1 : w1.cell? ⟨q, 1, none⟩ = some (.int .i64 3) := (k1.cell (p := ⟨q, 1, none⟩) hlt (fun e => e)).trans (by simp [World.cell?, hz])
  have c2 : w1.cell? ⟨q, 2, none⟩ = some (.int .i64 ks) := (k1.cell (p := ⟨q, 2, none⟩) hlt (fun e => e)).trans (by simp [World.cell?, hz])
  have c3 : w1.cell? ⟨q, 3, none⟩ = some (.int .i64 vs) := (k1.cell (p := ⟨q, 3, none⟩) hlt (fun e => e)).trans (by simp [World.cell?, hz])
  have c4 : w1.cell? ⟨q, 4, none⟩ = some (.int .i64 mx) := (k1.cell (p := ⟨q, 4, none⟩) hlt (fun e => e)).trans (by simp [World.cell?, hz])
  have HQ := Lib.hid hq
  have HQ1 := Lib.hid (Nat.lt_of_lt_of_le hlt k1.size)
  clear k1 hz hlt hq
  go_upto_region 7 with fail
  have CL : ∀ W', Twin W' w1 → Calls Tryz.prog 72 #[.int .i64 mx] W' fun e w' => ∃ bl bm, e = .returned (.pointer (some ⟨bl, 0, none⟩)) ∧ w'.cell? ⟨q, 0, none⟩ = some (.string nm) ∧ w'.cell? ⟨q, 1, none⟩ = some (.int .i64 3) ∧ w'.cell? ⟨q, 2, none⟩ = some (.int .i64 ks) ∧ w'.cell? ⟨q, 3, none⟩ = some (.int .i64 vs) ∧ w'.cell? ⟨q, 4, none⟩ = some (.int .i64 mx) ∧ SE.L w' bl bm mx [] ∧ Kept (fun _ => False) W w' ∧ q ≤ bl ∧ q ≤ bm := by
    intro W' t
    have k2 := (Kept.refl (fun _ => False) w1).twin t
    refine (SE.new_own mx W').mono ?_
    rintro e w' ⟨bl, bm, rfl, hL, k6, hbl, hbm⟩
    rw [hmx] at hL
    have k3 := k2.trans k6.none (fun _ _ e => e)
    have hz1 : w1.heap.size ≤ W'.heap.size := k2.size
    have hz2 := K1.out.size
    have hq1 := HQ.out
    exact ⟨bl, bm, rfl, (k3.cell (p := ⟨q, 0, none⟩) HQ1.out (fun e => e)).trans c0, (k3.cell (p := ⟨q, 1, none⟩) HQ1.out (fun e => e)).trans c1, (k3.cell (p := ⟨q, 2, none⟩) HQ1.out (fun e => e)).trans c2, (k3.cell (p := ⟨q, 3, none⟩) HQ1.out (fun e => e)).trans c3, (k3.cell (p := ⟨q, 4, none⟩) HQ1.out (fun e => e)).trans c4, hL, K1.out.trans k3 (fun _ _ e => e), by omega, by omega⟩
  have CLH := Lib.hid CL
  clear CL
  go_region_held3 (fun w' => w'.cell? ⟨q, 0, none⟩ = some (.string nm) ∧ w'.cell? ⟨q, 1, none⟩ = some (.int .i64 3) ∧ w'.cell? ⟨q, 2, none⟩ = some (.int .i64 ks) ∧ w'.cell? ⟨q, 3, none⟩ = some (.int .i64 vs) ∧ w'.cell? ⟨q, 4, none⟩ = some (.int .i64 mx)) (go_keep) ((go_at_call 72; refine (CLH.out _ (by exact ⟨rfl, rfl, rfl, rfl⟩)).mono ?_; rintro e w6 ⟨bl, bm, rfl, d0, d1, d2, d3, d4, hL, k6, hbl, hbm⟩; have HL := Lib.hid hL; have K6 := Lib.hid k6; have HB := Lib.hid (And.intro hbl hbm); clear hL k6 hbl hbm))
  go_wp2_with fail
  go_ret2
  refine ⟨w6.heap.size, .iface 166 (.agg #[.pointer (some ⟨bl, 0, none⟩)]), Lfp bl bm ([] : List (Ent ByteArray Nat)), rfl, ?_⟩
  have hm := tb_new0 (m := ⟨nm, 3, ks, vs, mx⟩) (iv := .iface 166 (.agg #[.pointer (some ⟨bl, 0, none⟩)])) (F := Lfp bl bm ([] : List (Ent ByteArray Nat))) HR.out (by show (3 : Int) ≠ 1; decide) K6.out ⟨fun _ => ⟨bl, bm, [], rfl, HL.out, rfl, rfl⟩, fun e => (by have e : (3 : Int) = 2 := e; omega), fun e => (by have e : (3 : Int) = 1 := e; omega)⟩ (by
    have := HB.out
    have := HQ.out
    rintro b (rfl | rfl | ⟨x, hx, _⟩)
    · omega
    · omega
    · cases hx)
  exact hm
end
end Go.Proofs.YtdkcnigghcbnpaaGreat
