/- Update, walked: wrong sizes, flags, there, not there. -/
import Derived.Test.YtalahbmahpgkeaaCopy
import Derived.Test.YtalahbmahpgkeaaLookup
import Derived.Deep.RegionHeld3
namespace Go.Proofs.Ytalahbmahpgkeaa
set_option linter.unusedVariables false
set_option linter.unusedSimpArgs false
open Go.RowKit Go.MapKept

theorem en_new {w : World} {d c vn : Nat} {k v : ByteArray} (own : w.ownsRow 0 5 1 (.slice (some ⟨d, 0, none⟩) vn c) vn (byteVs v)) (hn : vn = v.size) : EnAt (w.alloc (.cells #[.string k, .slice (some ⟨d, 0, none⟩) vn c] 44)) ⟨w.heap.size, d, c, k, v⟩ := by
  have ka := Kept.one_alloc w (.cells #[.string k, .slice (some ⟨d, 0, none⟩) vn c] 44)
  have hrow := own_row own
  rw [Nat.mul_one] at hrow
  obtain ⟨a1, c1, e1, -, -, hle⟩ := own_form own
  injection e1 with _ _ e1
  subst e1
  have hcap : c ≤ maxLen := by
    rcases own.2 with ⟨e, _⟩ | ⟨g, cap, cur, e, _, _, _, h, _⟩
    · cases e
    · injection e with _ _ e
      rw [e]
      exact h
  refine ⟨RowAt.new w #[.string k, .slice (some ⟨d, 0, none⟩) vn c] 44, by simp, by rw [← hn]; simp, hrow.kept ka (fun e => e), by rw [← hn]; exact hle, hcap, fun i hi => ?_⟩
  exact (ka.cell (p := ⟨d, i, none⟩) hrow.lt (fun e => e)).trans (own_cell own (byteVs_at v hi))
theorem new_fits {W w1 w6 : World} {fa : Nat} {r : Value} {mx : Int} {k v : ByteArray} {Q : Nat → Nat → Nat → Ending → World → Prop} {d c vn : Nat}
    (ha : ∀ W' eb ed ec, Kept (fun _ => False) W W' → W.heap.size ≤ eb → W.heap.size ≤ ed → ed ≠ eb → EnAt W' ⟨eb, ed, ec, k, v⟩ → Calls Try.prog fa #[r, .pointer (some ⟨eb, 0, none⟩), .int .i64 mx] W' (Q eb ed ec))
    (k1 : Kept (fun _ => False) W w1) (hn : vn = v.size) (hd : w1.heap.size ≤ d) (own : w6.ownsRow 0 5 1 (.slice (some ⟨d, 0, none⟩) vn c) vn (byteVs v)) (k6 : Kept (fun _ => False) w1 w6) :
    (W.heap.size ≤ w6.heap.size ∧ W.heap.size ≤ d ∧ d ≠ w6.heap.size) ∧ Calls Try.prog fa #[r, .pointer (some ⟨w6.heap.size, 0, none⟩), .int .i64 mx] (w6.alloc (.cells #[.string k, .slice (some ⟨d, 0, none⟩) vn c] 44)) (Q w6.heap.size d c) := by
  have z1 := k1.size
  have z6 := k6.size
  have hdl := (own_row own).lt
  have hp : W.heap.size ≤ w6.heap.size ∧ W.heap.size ≤ d ∧ d ≠ w6.heap.size := ⟨by omega, by omega, by omega⟩
  exact ⟨hp, ha _ _ _ _ ((k1.trans k6 (fun _ _ e => e)).trans (Kept.one_alloc w6 _) (fun _ _ e => e)) hp.1 hp.2.1 hp.2.2 (en_new own hn)⟩

section
variable {W : World} {bt : Nat} {m : TM} {a va : Option Addr} {n c vn vc : Nat} {k v : ByteArray} {fl : Int}

set_option maxRecDepth 100000 in
theorem update_wrong (hc2 : W.cell? ⟨bt, 2, none⟩ = some (.int .i64 m.ks)) (hc3 : W.cell? ⟨bt, 3, none⟩ = some (.int .i64 m.vs)) (hw : (n : Int) ≠ m.ks ∨ (vn : Int) ≠ m.vs ∨ fl < 0 ∨ 2 < fl) :
    Calls Try.prog 20 #[.pointer (some ⟨bt, 0, none⟩), .slice a n c, .slice va vn vc, .int .i64 fl] W fun e w' => e = .returned (.int .i64 1) ∧ W = w' := by
  generalize m.ks = ks at *
  generalize m.vs = vs at *
  by_cases h1 : (n : Int) = ks
  · subst h1
    by_cases h2 : (vn : Int) = vs
    · subst h2
      by_cases h3 : fl < 0
      · have d3 : decide (fl < 0) = true := by simpa using h3
        clear hw
        go_enter Try.func20, Try.ntmps20
        go_wp2_with fail
        go_ret
        exact ⟨rfl, rfl⟩
      · have d3 : decide (fl < 0) = false := by simpa using h3
        have h4 : 2 < fl := by omega
        have d4 : decide (2 < fl) = true := by simpa using h4
        clear hw
        go_enter Try.func20, Try.ntmps20
        go_wp2_with fail
        go_ret
        exact ⟨rfl, rfl⟩
    · have d2 : ((vn : Int) != vs) = true := by simpa using h2
      clear hw h2
      go_enter Try.func20, Try.ntmps20
      go_wp2_with fail
      go_ret
      exact ⟨rfl, rfl⟩
  · have d1 : ((n : Int) != ks) = true := by simpa using h1
    clear hw h1
    go_enter Try.func20, Try.ntmps20
    go_wp2_with fail
    go_ret
    exact ⟨rfl, rfl⟩

set_option maxHeartbeats 1000000 in
set_option maxRecDepth 100000 in
/-- There already, and not wanted; or not there, and wanted. -/
theorem update_flag (T fp : Nat) (r : Value) (o : Option En) (hc2 : W.cell? ⟨bt, 2, none⟩ = some (.int .i64 (n : Nat))) (hc3 : W.cell? ⟨bt, 3, none⟩ = some (.int .i64 (vn : Nat))) (hc5 : W.cell? ⟨bt, 5, none⟩ = some (.iface T r)) (hk : BytesAt W a n k)
    (hm : ∀ n w, (method (n + 1) T r "swingbridge/table.peek").run Try.prog w = .ok (fp, r) w) (eg : ∀ args w, (callFunc fp args).run Try.prog w = .ok (.enter fp args) w)
    (hp : Calls Try.prog fp #[r, .string k] W fun e w' => e = .returned (enV o) ∧ Kept (fun _ => False) W w') (hf : (o.isSome = true ∧ fl = 1) ∨ (o = none ∧ fl = 2)) :
    Calls Try.prog 20 #[.pointer (some ⟨bt, 0, none⟩), .slice a n c, .slice va vn vc, .int .i64 fl] W fun e w' => e = .returned (.int .i64 (if fl = 1 then 4 else 3)) ∧ Kept (fun _ => False) W w' := by
  have hcv := hk.conv (c := c)
  have HP := Lib.hid hp
  clear hk hp
  rcases hf with ⟨h1, rfl⟩ | ⟨rfl, rfl⟩
  · obtain ⟨x, rfl⟩ := Option.isSome_iff_exists.1 h1
    go_enter Try.func20, Try.ntmps20
    go_wp2_with fail
    refine HP.out.mono ?_
    rintro e w1 ⟨rfl, k1⟩
    have K1 := Lib.hid k1
    clear k1 HP
    simp only [enV]
    go_wp2_with fail
    go_ret
    exact ⟨rfl, K1.out⟩
  · go_enter Try.func20, Try.ntmps20
    go_wp2_with fail
    refine HP.out.mono ?_
    rintro e w1 ⟨rfl, k1⟩
    have K1 := Lib.hid k1
    clear k1 HP
    simp only [enV]
    go_wp2_with fail
    go_ret
    exact ⟨rfl, K1.out⟩

set_option maxHeartbeats 1000000 in
set_option maxRecDepth 100000 in
/-- There already: its data takes the value. -/
theorem update_there (T fp fu : Nat) (r : Value) (x : En) (R : World → Prop) (hc2 : W.cell? ⟨bt, 2, none⟩ = some (.int .i64 (n : Nat))) (hc3 : W.cell? ⟨bt, 3, none⟩ = some (.int .i64 (vn : Nat))) (hc5 : W.cell? ⟨bt, 5, none⟩ = some (.iface T r)) (hb : bt < W.heap.size) (hk : BytesAt W a n k)
    (hm : ∀ n w, (method (n + 1) T r "swingbridge/table.peek").run Try.prog w = .ok (fp, r) w) (eg : ∀ args w, (callFunc fp args).run Try.prog w = .ok (.enter fp args) w)
    (hm2 : ∀ n w, (method (n + 1) T r "swingbridge/table.use").run Try.prog w = .ok (fu, r) w) (eg2 : ∀ args w, (callFunc fu args).run Try.prog w = .ok (.enter fu args) w)
    (hp : Calls Try.prog fp #[r, .string k] W fun e w' => e = .returned (.pointer (some ⟨x.b, 0, none⟩)) ∧ Kept (fun _ => False) W w')
    (hu : ∀ W', Kept (fun _ => False) W W' → Calls Try.prog fu #[r, .string k] W' fun e w' => e = .returned (.pointer (some ⟨x.b, 0, none⟩)) ∧ EnAt w' x ∧ BytesAt w' va vn v ∧ R w')
    (hbd : x.b ≠ x.d) (hn : v.size = x.data.size) (h0 : 0 < v.size) (hf : fl = 0 ∨ fl = 2) :
    Calls Try.prog 20 #[.pointer (some ⟨bt, 0, none⟩), .slice a n c, .slice va vn vc, .int .i64 fl] W fun e w' => e = .returned (.int .i64 0) ∧ ∃ w1, R w1 ∧ EnAt w' { x with data := v } ∧ Kept (fun b => b = x.d) w1 w' := by
  have hcv := hk.conv (c := c)
  have HP := Lib.hid hp
  have HU := Lib.hid hu
  have HN := Lib.hid hn
  have HBD := Lib.hid hbd
  have H0 := Lib.hid h0
  have HB := Lib.hid hb
  clear hk hp hu hn hbd h0 hb
  have d1 : decide (fl < 0) = false := by simp; omega
  have d2 : decide (2 < fl) = false := by simp; omega
  have d3 : (fl == 1) = false := by simp; omega
  have HF := Lib.hid hf
  clear hf
  go_enter Try.func20, Try.ntmps20
  go_wp2_with fail
  refine HP.out.mono ?_
  rintro e w1 ⟨rfl, k1⟩
  have hc51 : w1.cell? ⟨bt, 5, none⟩ = some (.iface T r) := (k1.cell (p := ⟨bt, 5, none⟩) HB.out (fun e => e)).trans hc5
  have USE := Lib.hid (HU.out w1 k1)
  clear k1 HP HU hc5
  go_wp2_with fail
  refine USE.out.mono ?_
  rintro e w2 ⟨rfl, hx, hv, hr⟩
  obtain ⟨w3, hcp, hx3, k3⟩ := copy_into (n := vn) (c := vc) hx HBD.out hv HN.out H0.out 3
  have hsl := hx.sl
  have HR := Lib.hid hr
  have HX3 := Lib.hid hx3
  have K3 := Lib.hid k3
  clear hx hv hr hx3 k3 USE hc51
  go_wp2_with fail
  go_ret
  exact ⟨rfl, w2, HR.out, HX3.out, K3.out⟩

set_option maxHeartbeats 2000000 in
set_option maxRecDepth 100000 in
/-- Not there: a new entry. -/
theorem update_add (T fp fa : Nat) (r : Value) (mx code : Int) (R : Nat → Nat → Nat → World → Prop) (hc2 : W.cell? ⟨bt, 2, none⟩ = some (.int .i64 (n : Nat))) (hc3 : W.cell? ⟨bt, 3, none⟩ = some (.int .i64 (vn : Nat))) (hc4 : W.cell? ⟨bt, 4, none⟩ = some (.int .i64 mx)) (hc5 : W.cell? ⟨bt, 5, none⟩ = some (.iface T r)) (hb : bt < W.heap.size) (hk : BytesAt W a n k) (hv : BytesAt W va vn v)
    (hm : ∀ n w, (method (n + 1) T r "swingbridge/table.peek").run Try.prog w = .ok (fp, r) w) (eg : ∀ args w, (callFunc fp args).run Try.prog w = .ok (.enter fp args) w)
    (hm2 : ∀ n w, (method (n + 1) T r "swingbridge/table.add").run Try.prog w = .ok (fa, r) w) (eg2 : ∀ args w, (callFunc fa args).run Try.prog w = .ok (.enter fa args) w)
    (hni : ∀ n w, (nilAhead (n + 1) T r "swingbridge/table.add").run Try.prog w = .ok (some false) w)
    (hp : Calls Try.prog fp #[r, .string k] W fun e w' => e = .returned (.pointer none) ∧ Kept (fun _ => False) W w')
    (ha : ∀ W' eb ed ec, Kept (fun _ => False) W W' → W.heap.size ≤ eb → W.heap.size ≤ ed → ed ≠ eb → EnAt W' ⟨eb, ed, ec, k, v⟩ → Calls Try.prog fa #[r, .pointer (some ⟨eb, 0, none⟩), .int .i64 mx] W' fun e w' => e = .returned (.int .i64 code) ∧ w'.cell? ⟨bt, 5, none⟩ = some (.iface T r) ∧ w'.cell? ⟨bt, 4, none⟩ = some (.int .i64 mx) ∧ R eb ed ec w')
    (h0 : 0 < v.size) (hlt : v.size ≤ 100000) (hf : fl = 0 ∨ fl = 1) :
    Calls Try.prog 20 #[.pointer (some ⟨bt, 0, none⟩), .slice a n c, .slice va vn vc, .int .i64 fl] W fun e w' => e = .returned (.int .i64 code) ∧ ∃ eb ed ec, W.heap.size ≤ eb ∧ W.heap.size ≤ ed ∧ ed ≠ eb ∧ R eb ed ec w' := by
  have hcv := hk.conv (c := c)
  have HP := Lib.hid hp
  have HA := Lib.hid ha
  have HV := Lib.hid hv
  have H0 := Lib.hid h0
  have HL := Lib.hid hlt
  have HB := Lib.hid hb
  clear hk hp ha hv h0 hb hlt
  have d1 : decide (fl < 0) = false := by simp; omega
  have d2 : decide (2 < fl) = false := by simp; omega
  have d3 : (fl == 2) = false := by simp; omega
  have HF := Lib.hid hf
  clear hf
  go_enter Try.func20, Try.ntmps20
  go_wp2_with fail
  refine HP.out.mono ?_
  rintro e w1 ⟨rfl, k1⟩
  have hb1 : bt < w1.heap.size := Nat.lt_of_lt_of_le HB.out k1.size
  have hc51 : w1.cell? ⟨bt, 5, none⟩ = some (.iface T r) := (k1.cell (p := ⟨bt, 5, none⟩) HB.out (fun e => e)).trans hc5
  have hc41 : w1.cell? ⟨bt, 4, none⟩ = some (.int .i64 mx) := (k1.cell (p := ⟨bt, 4, none⟩) HB.out (fun e => e)).trans hc4
  have CL : ∀ W', Twin W' w1 → Calls Try.prog 37 #[.slice va vn vc] W' fun e w' => ∃ d c', e = .returned (.slice (some ⟨d, 0, none⟩) vn c') ∧ w'.cell? ⟨bt, 5, none⟩ = some (.iface T r) ∧ w'.cell? ⟨bt, 4, none⟩ = some (.int .i64 mx) ∧ w1.heap.size ≤ d ∧ w'.ownsRow 0 5 1 (.slice (some ⟨d, 0, none⟩) vn c') vn (byteVs v) ∧ Kept (fun _ => False) w1 w' := by
    intro W' t
    have k2 := (Kept.refl (fun _ => False) w1).twin t
    refine (clone_any (c := vc) ((HV.out.kept k1 (fun _ _ _ e => e)).twin t) (by rw [HV.out.1]; exact H0.out) (by rw [HV.out.1]; exact HL.out)).mono ?_
    rintro e w' ⟨d, c', rfl, h1, h2, h3⟩
    have k3 := k2.trans h3 (fun _ _ e => e)
    exact ⟨d, c', rfl, (k3.cell (p := ⟨bt, 5, none⟩) hb1 (fun e => e)).trans hc51, (k3.cell (p := ⟨bt, 4, none⟩) hb1 (fun e => e)).trans hc41, by have := k2.size; omega, h2, k3⟩
  have CLH := Lib.hid CL
  have K1 := Lib.hid k1
  clear CL hc5 hc4 k1 HP
  go_upto_region 12 with fail
  go_region_held3 (fun w' => w'.cell? ⟨bt, 5, none⟩ = some (.iface T r) ∧ w'.cell? ⟨bt, 4, none⟩ = some (.int .i64 mx)) (go_keep) (first | (go_at_call 37; refine (CLH.out _ (by exact ⟨rfl, rfl, rfl, rfl⟩)).mono ?_; rintro e w6 ⟨d, c', rfl, hc56, hc46, hd6, own6, k6⟩; obtain ⟨PE, EN⟩ := new_fits HA.out K1.out HV.out.1 hd6 own6 k6; have EN := Lib.hid EN; have PE := Lib.hid PE; clear hd6 own6 k6) | (refine EN.out.mono ?_; rintro e w7 ⟨rfl, hc57, hc47, hr7⟩; have HR7 := Lib.hid hr7; clear hr7))
  go_wp2_with fail
  go_ret
  exact ⟨rfl, _, _, _, PE.out.1, PE.out.2.1, PE.out.2.2, HR7.out⟩
end
end Go.Proofs.Ytalahbmahpgkeaa
