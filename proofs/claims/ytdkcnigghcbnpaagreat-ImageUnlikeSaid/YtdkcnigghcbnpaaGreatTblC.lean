/- What stands under the walks, part C. -/
import Derived.Test.YtdkcnigghcbnpaaGreatCopy
import Derived.Test.YtdkcnigghcbnpaaGreatLookup
import Derived.Deep.RegionHeld3
/- Update, walked: wrong sizes, flags, there, not there. -/
namespace Go.Proofs.YtdkcnigghcbnpaaGreat
set_option linter.unusedVariables false
set_option linter.unusedSimpArgs false
open Go.RowKit Go.MapKept

theorem en_new {w : World} {d c vn : Nat} {k v : ByteArray} (own : w.ownsRow 0 5 1 (.slice (some ⟨d, 0, none⟩) vn c) vn (byteVs v)) (hn : vn = v.size) : EnAt (w.alloc (.cells #[.string k, .slice (some ⟨d, 0, none⟩) vn c] 45)) ⟨w.heap.size, d, c, k, v⟩ := by
  have ka := Kept.one_alloc w (.cells #[.string k, .slice (some ⟨d, 0, none⟩) vn c] 45)
  have hrow := own_row own
  rw [Nat.mul_one] at hrow
  obtain ⟨a1, c1, e1, -, -, hle⟩ := own_form own
  injection e1 with _ _ e1
  subst e1
  have hcap : c ≤ maxLen := by
    rcases own.2 with ⟨e, _⟩ | ⟨g, cap, cur, e, _, _, _, h, _⟩
    · cases e
    · injection e with _ _ e
      rw [e]
      exact h
  refine ⟨RowAt.new w #[.string k, .slice (some ⟨d, 0, none⟩) vn c] 45, by simp, by rw [← hn]; simp, (hrow.kept ka (fun e => e)).rowm, by rw [← hn]; exact hle, hcap, fun i hi => ?_⟩
  exact (ka.cell (p := ⟨d, i, none⟩) hrow.lt (fun e => e)).trans (own_cell own (byteVs_at v hi))
theorem new_fits {W w1 w6 : World} {fa : Nat} {r : Value} {mx : Int} {k v : ByteArray} {Q : Nat → Nat → Nat → Ending → World → Prop} {d c vn : Nat}
    (ha : ∀ W' eb ed ec, Kept (fun _ => False) W W' → W.heap.size ≤ eb → W.heap.size ≤ ed → ed ≠ eb → EnAt W' ⟨eb, ed, ec, k, v⟩ → Calls Tryz.prog fa #[r, .pointer (some ⟨eb, 0, none⟩), .int .i64 mx] W' (Q eb ed ec))
    (k1 : Kept (fun _ => False) W w1) (hn : vn = v.size) (hd : w1.heap.size ≤ d) (own : w6.ownsRow 0 5 1 (.slice (some ⟨d, 0, none⟩) vn c) vn (byteVs v)) (k6 : Kept (fun _ => False) w1 w6) :
    (W.heap.size ≤ w6.heap.size ∧ W.heap.size ≤ d ∧ d ≠ w6.heap.size) ∧ Calls Tryz.prog fa #[r, .pointer (some ⟨w6.heap.size, 0, none⟩), .int .i64 mx] (w6.alloc (.cells #[.string k, .slice (some ⟨d, 0, none⟩) vn c] 45)) (Q w6.heap.size d c) := by
  have z1 := k1.size
  have z6 := k6.size
  have hdl := (own_row own).lt
  have hp : W.heap.size ≤ w6.heap.size ∧ W.heap.size ≤ d ∧ d ≠ w6.heap.size := ⟨by omega, by omega, by omega⟩
  exact ⟨hp, ha _ _ _ _ ((k1.trans k6 (fun _ _ e => e)).trans (Kept.one_alloc w6 _) (fun _ _ e => e)) hp.1 hp.2.1 hp.2.2 (en_new own hn)⟩

section
variable {W : World} {bt : Nat} {m : TM} {a va : Option Addr} {n c vn vc : Nat} {k v : ByteArray} {fl : Int}

set_option maxRecDepth 100000 in
theorem update_wrong (hc2 : W.cell? ⟨bt, 2, none⟩ = some (.int .i64 m.ks)) (hc3 : W.cell? ⟨bt, 3, none⟩ = some (.int .i64 m.vs)) (hw : (n : Int) ≠ m.ks ∨ (vn : Int) ≠ m.vs ∨ fl < 0 ∨ 2 < fl) :
    Calls Tryz.prog 31 #[.pointer (some ⟨bt, 0, none⟩), .slice a n c, .slice va vn vc, .int .i64 fl] W fun e w' => e = .returned (.int .i64 1) ∧ W = w' := by
  generalize m.ks = ks at *
  generalize m.vs = vs at *
  by_cases h1 : (n : Int) = ks
  · subst h1
    by_cases h2 : (vn : Int) = vs
    · subst h2
      by_cases h3 : fl < 0
      · have d3 : decide (fl < 0) = true := by simpa using h3
        clear hw
        go_enter Tryz.func31, Tryz.ntmps31
        go_wp2_with fail
        go_ret
        exact ⟨rfl, rfl⟩
      · have d3 : decide (fl < 0) = false := by simpa using h3
        have h4 : 2 < fl := by omega
        have d4 : decide (2 < fl) = true := by simpa using h4
        clear hw
        go_enter Tryz.func31, Tryz.ntmps31
        go_wp2_with fail
        go_ret
        exact ⟨rfl, rfl⟩
    · have d2 : ((vn : Int) != vs) = true := by simpa using h2
      clear hw h2
      go_enter Tryz.func31, Tryz.ntmps31
      go_wp2_with fail
      go_ret
      exact ⟨rfl, rfl⟩
  · have d1 : ((n : Int) != ks) = true := by simpa using h1
    clear hw h1
    go_enter Tryz.func31, Tryz.ntmps31
    go_wp2_with fail
    go_ret
    exact ⟨rfl, rfl⟩

set_option maxHeartbeats 1000000 in
set_option maxRecDepth 100000 in
/-- There already, and not wanted; or not there, and wanted. -/
theorem update_flag (T fp : Nat) (r : Value) (o : Option En) (hc2 : W.cell? ⟨bt, 2, none⟩ = some (.int .i64 (n : Nat))) (hc3 : W.cell? ⟨bt, 3, none⟩ = some (.int .i64 (vn : Nat))) (hc5 : W.cell? ⟨bt, 5, none⟩ = some (.iface T r)) (hk : BytesAt W a n k)
    (hm : ∀ n w, (method (n + 1) T r "swingbridge/table.peek").run Tryz.prog w = .ok (fp, r) w) (eg : ∀ args w, (callFunc fp args).run Tryz.prog w = .ok (.enter fp args) w)
    (hp : Calls Tryz.prog fp #[r, .string k] W fun e w' => e = .returned (enV o) ∧ Kept (fun _ => False) W w') (hf : (o.isSome = true ∧ fl = 1) ∨ (o = none ∧ fl = 2)) :
    Calls Tryz.prog 31 #[.pointer (some ⟨bt, 0, none⟩), .slice a n c, .slice va vn vc, .int .i64 fl] W fun e w' => e = .returned (.int .i64 (if fl = 1 then 4 else 3)) ∧ Kept (fun _ => False) W w' := by
  have hcv := hk.conv (c := c)
  have HP := Lib.hid hp
  clear hk hp
  rcases hf with ⟨h1, rfl⟩ | ⟨rfl, rfl⟩
  · obtain ⟨x, rfl⟩ := Option.isSome_iff_exists.1 h1
    go_enter Tryz.func31, Tryz.ntmps31
    go_wp2_with fail
    refine HP.out.mono ?_
    rintro e w1 ⟨rfl, k1⟩
    have K1 := Lib.hid k1
    clear k1 HP
    simp only [enV]
    go_wp2_with fail
    go_ret
    exact ⟨rfl, K1.out⟩
  · go_enter Tryz.func31, Tryz.ntmps31
    go_wp2_with fail
    refine HP.out.mono ?_
    rintro e w1 ⟨rfl, k1⟩
    have K1 := Lib.hid k1
    clear k1 HP
    simp only [enV]
    go_wp2_with fail
    go_ret
    exact ⟨rfl, K1.out⟩

set_option maxHeartbeats 1000000 in
set_option maxRecDepth 100000 in
/-- There already: its data takes the value. -/
theorem update_there (T fp fu : Nat) (r : Value) (x : En) (R : World → Prop) (hc2 : W.cell? ⟨bt, 2, none⟩ = some (.int .i64 (n : Nat))) (hc3 : W.cell? ⟨bt, 3, none⟩ = some (.int .i64 (vn : Nat))) (hc5 : W.cell? ⟨bt, 5, none⟩ = some (.iface T r)) (hb : bt < W.heap.size) (hk : BytesAt W a n k)
    (hm : ∀ n w, (method (n + 1) T r "swingbridge/table.peek").run Tryz.prog w = .ok (fp, r) w) (eg : ∀ args w, (callFunc fp args).run Tryz.prog w = .ok (.enter fp args) w)
    (hm2 : ∀ n w, (method (n + 1) T r "swingbridge/table.use").run Tryz.prog w = .ok (fu, r) w) (eg2 : ∀ args w, (callFunc fu args).run Tryz.prog w = .ok (.enter fu args) w)
    (hp : Calls Tryz.prog fp #[r, .string k] W fun e w' => e = .returned (.pointer (some ⟨x.b, 0, none⟩)) ∧ Kept (fun _ => False) W w')
    (hu : ∀ W', Kept (fun _ => False) W W' → Calls Tryz.prog fu #[r, .string k] W' fun e w' => e = .returned (.pointer (some ⟨x.b, 0, none⟩)) ∧ EnAt w' x ∧ BytesAt w' va vn v ∧ R w')
    (hbd : x.b ≠ x.d) (hn : v.size = x.data.size) (h0 : 0 < v.size) (hf : fl = 0 ∨ fl = 2) :
    Calls Tryz.prog 31 #[.pointer (some ⟨bt, 0, none⟩), .slice a n c, .slice va vn vc, .int .i64 fl] W fun e w' => e = .returned (.int .i64 0) ∧ ∃ w1, R w1 ∧ EnAt w' { x with data := v } ∧ Kept (fun b => b = x.d) w1 w' := by
  have hcv := hk.conv (c := c)
  have HP := Lib.hid hp
  have HU := Lib.hid hu
  have HN := Lib.hid hn
  have HBD := Lib.hid hbd
  have H0 := Lib.hid h0
  have HB := Lib.hid hb
  clear hk hp hu hn hbd h0 hb
  have d1 : decide (fl < 0) = false := by simp; omega
  have d2 : decide (2 < fl) = false := by simp; omega
  have d3 : (fl == 1) = false := by simp; omega
  have HF := Lib.hid hf
  clear hf
  go_enter Tryz.func31, Tryz.ntmps31
  go_wp2_with fail
  refine HP.out.mono ?_
  rintro e w1 ⟨rfl, k1⟩
  have hc51 : w1.cell? ⟨bt, 5, none⟩ = some (.iface T r) := (k1.cell (p := ⟨bt, 5, none⟩) HB.out (fun e => e)).trans hc5
  have USE := Lib.hid (HU.out w1 k1)
  clear k1 HP HU hc5
  go_wp2_with fail
  refine USE.out.mono ?_
  rintro e w2 ⟨rfl, hx, hv, hr⟩
  obtain ⟨w3, hcp, hx3, k3⟩ := copy_into (n := vn) (c := vc) hx HBD.out hv HN.out H0.out 3
  have hsl := hx.sl
  have HR := Lib.hid hr
  have HX3 := Lib.hid hx3
  have K3 := Lib.hid k3
  clear hx hv hr hx3 k3 USE hc51
  go_wp2_with fail
  go_ret
  exact ⟨rfl, w2, HR.out, HX3.out, K3.out⟩

set_option maxHeartbeats 2000000 in
set_option maxRecDepth 100000 in
/-- Not there: a new entry. -/
theorem update_add (T fp fa : Nat) (r : Value) (mx code : Int) (R : Nat → Nat → Nat → World → Prop) (hc2 : W.cell? ⟨bt, 2, none⟩ = some (.int .i64 (n : Nat))) (hc3 : W.cell? ⟨bt, 3, none⟩ = some (.int .i64 (vn : Nat))) (hc4 : W.cell? ⟨bt, 4, none⟩ = some (.int .i64 mx)) (hc5 : W.cell? ⟨bt, 5, none⟩ = some (.iface T r)) (hb : bt < W.heap.size) (hk : BytesAt W a n k) (hv : BytesAt W va vn v)
    (hm : ∀ n w, (method (n + 1) T r "swingbridge/table.peek").run Tryz.prog w = .ok (fp, r) w) (eg : ∀ args w, (callFunc fp args).run Tryz.prog w = .ok (.enter fp args) w)
    (hm2 : ∀ n w, (method (n + 1) T r "swingbridge/table.add").run Tryz.prog w = .ok (fa, r) w) (eg2 : ∀ args w, (callFunc fa args).run Tryz.prog w = .ok (.enter fa args) w)
    (hni : ∀ n w, (nilAhead (n + 1) T r "swingbridge/table.add").run Tryz.prog w = .ok (some false) w)
    (hp : Calls Tryz.prog fp #[r, .string k] W fun e w' => e = .returned (.pointer none) ∧ Kept (fun _ => False) W w')
    (ha : ∀ W' eb ed ec, Kept (fun _ => False) W W' → W.heap.size ≤ eb → W.heap.size ≤ ed → ed ≠ eb → EnAt W' ⟨eb, ed, ec, k, v⟩ → Calls Tryz.prog fa #[r, .pointer (some ⟨eb, 0, none⟩), .int .i64 mx] W' fun e w' => e = .returned (.int .i64 code) ∧ w'.cell? ⟨bt, 5, none⟩ = some (.iface T r) ∧ w'.cell? ⟨bt, 4, none⟩ = some (.int .i64 mx) ∧ R eb ed ec w')
    (h0 : 0 < v.size) (hlt : v.size ≤ 100000) (hf : fl = 0 ∨ fl = 1) :
    Calls Tryz.prog 31 #[.pointer (some ⟨bt, 0, none⟩), .slice a n c, .slice va vn vc, .int .i64 fl] W fun e w' => e = .returned (.int .i64 code) ∧ ∃ eb ed ec, W.heap.size ≤ eb ∧ W.heap.size ≤ ed ∧ ed ≠ eb ∧ R eb ed ec w' := by
  have hcv := hk.conv (c := c)
  have HP := Lib.hid hp
  have HA := Lib.hid ha
  have HV := Lib.hid hv
  have H0 := Lib.hid h0
  have HL := Lib.hid hlt
  have HB := Lib.hid hb
  clear hk hp ha hv h0 hb hlt
  have d1 : decide (fl < 0) = false := by simp; omega
  have d2 : decide (2 < fl) = false := by simp; omega
  have d3 : (fl == 2) = false := by simp; omega
  have HF := Lib.hid hf
  clear hf
  go_enter Tryz.func31, Tryz.ntmps31
  go_wp2_with fail
  refine HP.out.mono ?_
  rintro e w1 ⟨rfl, k1⟩
  have hb1 : bt < w1.heap.size := Nat.lt_of_lt_of_le HB.out k1.size
  have hc51 : w1.cell? ⟨bt, 5, none⟩ = some (.iface T r) := (k1.cell (p := ⟨bt, 5, none⟩) HB.out (fun e => e)).trans hc5
  have hc41 : w1.cell? ⟨bt, 4, none⟩ = some (.int .i64 mx) := (k1.cell (p := ⟨bt, 4, none⟩) HB.out (fun e => e)).trans hc4
  have CL : ∀ W', Twin W' w1 → Calls Tryz.prog 53 #[.slice va vn vc] W' fun e w' => ∃ d c', e = .returned (.slice (some ⟨d, 0, none⟩) vn c') ∧ w'.cell? ⟨bt, 5, none⟩ = some (.iface T r) ∧ w'.cell? ⟨bt, 4, none⟩ = some (.int .i64 mx) ∧ w1.heap.size ≤ d ∧ w'.ownsRow 0 5 1 (.slice (some ⟨d, 0, none⟩) vn c') vn (byteVs v) ∧ Kept (fun _ => False) w1 w' := by
    intro W' t
    have k2 := (Kept.refl (fun _ => False) w1).twin t
    refine (clone_any (c := vc) ((HV.out.kept k1 (fun _ _ _ e => e)).twin t) (by rw [HV.out.1]; exact H0.out) (by rw [HV.out.1]; exact HL.out)).mono ?_
    rintro e w' ⟨d, c', rfl, h1, h2, h3⟩
    have k3 := k2.trans h3 (fun _ _ e => e)
    exact ⟨d, c', rfl, (k3.cell (p := ⟨bt, 5, none⟩) hb1 (fun e => e)).trans hc51, (k3.cell (p := ⟨bt, 4, none⟩) hb1 (fun e => e)).trans hc41, by have := k2.size; omega, h2, k3⟩
  have CLH := Lib.hid CL
  have K1 := Lib.hid k1
  clear CL hc5 hc4 k1 HP
  go_upto_region 12 with fail
  go_region_held3 (fun w' => w'.cell? ⟨bt, 5, none⟩ = some (.iface T r) ∧ w'.cell? ⟨bt, 4, none⟩ = some (.int .i64 mx)) (go_keep) (first | (go_at_call 53; refine (CLH.out _ (by exact ⟨rfl, rfl, rfl, rfl⟩)).mono ?_; rintro e w6 ⟨d, c', rfl, hc56, hc46, hd6, own6, k6⟩; obtain ⟨PE, EN⟩ := new_fits HA.out K1.out HV.out.1 hd6 own6 k6; have EN := Lib.hid EN; have PE := Lib.hid PE; clear hd6 own6 k6) | (refine EN.out.mono ?_; rintro e w7 ⟨rfl, hc57, hc47, hr7⟩; have HR7 := Lib.hid hr7; clear hr7))
  go_wp2_with fail
  go_ret
  exact ⟨rfl, _, _, _, PE.out.1, PE.out.2.1, PE.out.2.2, HR7.out⟩
end
end Go.Proofs.YtdkcnigghcbnpaaGreat

/- What add and drop make of a table, by kinds. -/
namespace Go.Proofs.YtdkcnigghcbnpaaGreat
set_option linter.unusedVariables false
set_option linter.unusedSimpArgs false
open Go.RowKit Go.MapKept

theorem blocks_ne {E : List En} (hn : (E.flatMap fun x => [x.b, x.d]).Nodup) {x z : En} (hx : x ∈ E) (hz : z ∈ E) : x.b ≠ x.d ∧ (z.key ≠ x.key → z.b ≠ x.d ∧ z.d ≠ x.d ∧ z.b ≠ x.b ∧ z.d ≠ x.b) := by
  induction E generalizing x z with
  | nil => cases hx
  | cons a E ih =>
    rw [List.flatMap_cons, List.nodup_append] at hn
    obtain ⟨h1, h2, h3⟩ := hn
    have hab : a.b ≠ a.d := by simpa using h1
    have hin : ∀ y ∈ E, y.b ∈ E.flatMap (fun x => [x.b, x.d]) ∧ y.d ∈ E.flatMap (fun x => [x.b, x.d]) := fun y hy => ⟨List.mem_flatMap.2 ⟨y, hy, by simp⟩, List.mem_flatMap.2 ⟨y, hy, by simp⟩⟩
    have hap : ∀ y ∈ E, a.b ≠ y.b ∧ a.b ≠ y.d ∧ a.d ≠ y.b ∧ a.d ≠ y.d := fun y hy => ⟨h3 _ (by simp) _ (hin y hy).1, h3 _ (by simp) _ (hin y hy).2, h3 _ (by simp) _ (hin y hy).1, h3 _ (by simp) _ (hin y hy).2⟩
    rcases List.mem_cons.1 hx with e | hx'
    · subst e
      refine ⟨hab, fun hk => ?_⟩
      rcases List.mem_cons.1 hz with e | hz'
      · exact (hk (by rw [e])).elim
      · have := hap z hz'
        exact ⟨fun e => this.2.2.1 e.symm, fun e => this.2.2.2 e.symm, fun e => this.1 e.symm, fun e => this.2.1 e.symm⟩
    · rcases List.mem_cons.1 hz with e | hz'
      · subst e
        refine ⟨(ih h2 hx' hx').1, fun _ => ?_⟩
        have := hap x hx'
        exact ⟨this.2.1, this.2.2.2, this.1, this.2.2.1⟩
      · exact ih h2 hx' hz'

def addT (m : TM) (y : En) (E : List En) : List En := if (E.length : Int) + 1 ≤ m.mx then E ++ [y] else E.tail ++ [y]
def addC (m : TM) (E : List En) : Int := if m.kd = 1 then 3 else if m.kd = 2 ∧ m.mx ≤ (E.length : Int) then 5 else 0
def addE (m : TM) (y : En) (E : List En) : List En := if addC m E = 0 then addT m y E else E
def dropC (m : TM) : Int := if m.kd = 1 then 6 else 0
def dropM (m : TM) (k : ByteArray) (E : List En) : List En := if m.kd = 1 then E else dropT k E

section
variable {W W' : World} {bt : Nat} {m : TM} {iv : Value} {E E' : List En} {F F' : Nat → Prop}

/-- Whoever is a new entry of a table. -/
structure NewEn (W W' : World) (m : TM) (E : List En) (y : En) : Prop where
  at' : EnAt W' y
  b : W.heap.size ≤ y.b
  d : W.heap.size ≤ y.d
  ne : y.d ≠ y.b
  ks : (y.key.size : Int) = m.ks
  vs : (y.data.size : Int) = m.vs
  new : lookT y.key E = none

theorem Tb.added (h : Tb W bt m iv E F) {W0 : World} {y : En} (hn : NewEn W W0 m E y) (q0 : Kept (fun _ => False) W W0) (q : Kept F W0 W') {E1 : List En} (hs : E1.Sublist E) (hk : KindAt W' m iv (E1 ++ [y]) F') (hF : ∀ b, F' b → F b ∨ W0.heap.size ≤ b)
    (hlen : (E1.length : Int) + 1 ≤ m.mx) (h1 : m.kd ≠ 1) : Tb W' bt m iv (E1 ++ [y]) F' := by
  have hFl := h.kind.lt h.right
  have hyb := hn.at'.row.lt
  have hyd := hn.at'.drow.lt
  have hz := q0.size
  have hb := hn.b
  have hd := hn.d
  have hyF : ¬ F y.b ∧ ¬ F y.d := ⟨fun e => by have := hFl _ e; omega, fun e => by have := hFl _ e; omega⟩
  have hny := lookT_none hn.new
  refine h.step ((q0.mono (fun _ _ e => e.elim)).trans q (fun _ _ e => e)) (fun _ e => e) hk ?_ ?_ ?_ ?_ ?_ (fun e => (h1 e).elim)
  · intro b hb'
    rcases hF b hb' with e | e
    · exact .inl e
    · exact .inr (by omega)
  · intro x hx
    rcases List.mem_append.1 hx with hx | hx
    · exact .inl (hs.subset hx)
    · rw [List.mem_singleton] at hx
      subst hx
      refine .inr ⟨hb, hd, hn.at'.kept q hyF.1 hyF.2, hn.ks, hn.vs, fun b hb' => ?_⟩
      rcases hF b hb' with e | e
      · have := hFl _ e
        exact ⟨by omega, by omega⟩
      · exact ⟨by omega, by omega⟩
  · rw [List.map_append, List.nodup_append]
    refine ⟨h.keys.sublist (hs.map _), by simp, ?_⟩
    intro a ha b hb' e
    obtain ⟨x, hx, rfl⟩ := List.mem_map.1 ha
    simp only [List.map_cons, List.map_nil, List.mem_singleton] at hb'
    exact hny x (hs.subset hx) (e.trans hb')
  · rw [List.flatMap_append, List.nodup_append]
    refine ⟨h.blocks.sublist (flat_sub hs), by simpa using fun e => hn.ne e.symm, ?_⟩
    intro a ha b hb' e
    obtain ⟨x, hx, ha⟩ := List.mem_flatMap.1 ha
    have hxe := h.en x (hs.subset hx)
    have l1 := hxe.row.lt
    have l2 := hxe.drow.lt
    simp only [List.flatMap_cons, List.flatMap_nil, List.append_nil, List.mem_cons, List.not_mem_nil, or_false] at ha hb'
    omega
  · rw [List.length_append]
    simpa using hlen

theorem addT_form (h : Tb W bt m iv E F) (y : En) : ∃ E1, addT m y E = E1 ++ [y] ∧ E1.Sublist E ∧ (E1.length : Int) + 1 ≤ m.mx := by
  have hr := (rightB_iff _ _ _ _ _).1 h.right
  have := h.len
  unfold addT
  split
  · exact ⟨E, rfl, .refl _, by assumption⟩
  · refine ⟨E.tail, rfl, List.tail_sublist _, ?_⟩
    rw [List.length_tail]
    omega
theorem pairs_put {ls : List (Ent ByteArray Nat)} (h : Pairs ls E) {y : En} (hn : lookT y.key E = none) (nb : Nat) (m : TM) : Pairs (putE m.mx nb y.key y.b ls) (addT m y E) := by
  have hl := pairs_look h y.key
  have hlen := pairs_len h
  unfold Pairs at *
  rw [hn] at hl
  have hl : lookE y.key ls = none := by
    cases e : lookE y.key ls with
    | none => rfl
    | some x => rw [e] at hl; cases hl
  unfold putE addT
  rw [hl, hlen]
  simp only []
  split
  · rw [List.map_append, List.map_append, h]
    rfl
  · rw [List.map_append, List.map_append, List.map_tail, List.map_tail, h]
    rfl

/-- What a call of add makes. -/
abbrev AddPost (W : World) (bt : Nat) (m : TM) (iv : Value) (E : List En) (F : Nat → Prop) (y : En) (e : Ending) (w' : World) : Prop :=
  e = .returned (.int .i64 (addC m E)) ∧ (∃ F', Tb w' bt m iv (addE m y E) F' ∧ ∀ b, F' b → F b ∨ W.heap.size ≤ b) ∧ Kept F W w'

theorem add_l (h : Tb W bt m iv E F) (hkd : m.kd = 3) {W0 : World} {y : En} (hn : NewEn W W0 m E y) (q0 : Kept (fun _ => False) W W0) : ∃ p, iv = .iface 166 (.agg #[p]) ∧ Calls Tryz.prog 182 #[.agg #[p], .pointer (some ⟨y.b, 0, none⟩), .int .i64 m.mx] W0 (AddPost W bt m iv E F y) := by
  have hr := (rightB_iff _ _ _ _ _).1 h.right
  obtain ⟨bl, bm, ls, rfl, hl, hE, rfl⟩ := (h.kept q0 (fun _ _ e => e)).kind.l hkd
  refine ⟨_, rfl, (rec_add (k := y.key) hl (by omega) hn.at'.key hn.at'.row.lt _).mono ?_⟩
  rintro e w' ⟨rfl, ⟨nb, hnb, h1⟩, k1⟩
  obtain ⟨E1, e1, e2, e3⟩ := addT_form h y
  have hc : addC m E = 0 := by
    unfold addC
    rw [if_neg (by omega), if_neg (by omega)]
  have hfp : ∀ b, Lfp bl bm (putE m.mx nb y.key y.b ls) b → Lfp bl bm ls b ∨ W0.heap.size ≤ b := fun b hb => (fp_put hb).imp id (fun e => by rw [e]; exact hnb)
  refine ⟨by rw [hc], ⟨Lfp bl bm (putE m.mx nb y.key y.b ls), ?_, fun b hb => (hfp b hb).imp id (fun e => Nat.le_trans q0.size e)⟩, (q0.mono (fun _ _ e => e.elim)).trans k1 (fun _ _ e => e)⟩
  unfold addE
  rw [if_pos hc, e1]
  refine h.added hn q0 k1 e2 ⟨fun _ => ⟨bl, bm, _, rfl, h1, ?_, rfl⟩, fun e => by omega, fun e => by omega⟩ hfp e3 (by omega)
  rw [← e1]
  exact pairs_put hE hn.new nb m

theorem add_h (h : Tb W bt m iv E F) (hkd : m.kd = 2) {W0 : World} {y : En} (hn : NewEn W W0 m E y) (q0 : Kept (fun _ => False) W W0) : ∃ p, iv = .iface 162 (.map p) ∧ Calls Tryz.prog 153 #[.map p, .pointer (some ⟨y.b, 0, none⟩), .int .i64 m.mx] W0 (AddPost W bt m iv E F y) := by
  have hr := (rightB_iff _ _ _ _ _).1 h.right
  have h0 := h.kept q0 (fun _ _ e => e)
  obtain ⟨hm, rfl, ht, rfl⟩ := h0.kind.h hkd
  have hl : (hEnts E).length = E.length := by simp [hEnts]
  by_cases hf : m.mx ≤ (E.length : Int)
  · refine ⟨_, rfl, (hash_add_full ht (by rw [hl]; exact hf) y.b).mono ?_⟩
    rintro e w' ⟨rfl, rfl⟩
    have hc : addC m E = 5 := by
      unfold addC
      rw [if_neg (by omega), if_pos ⟨hkd, hf⟩]
    refine ⟨by rw [hc], ⟨_, ?_, fun b hb => .inl hb⟩, q0.mono (fun _ _ e => e.elim)⟩
    unfold addE
    rw [if_neg (by omega)]
    exact h0
  · refine ⟨_, rfl, (hash_add_room ht (by rw [hl]; exact hf) hn.at'.key ?_).mono ?_⟩
    · intro z hz
      obtain ⟨x, hx, rfl⟩ := List.mem_map.1 hz
      exact lookT_none hn.new x hx
    rintro e w' ⟨rfl, h1, k1⟩
    have hc : addC m E = 0 := by
      unfold addC
      rw [if_neg (by omega), if_neg (by omega)]
    have ha : addT m y E = E ++ [y] := by
      unfold addT
      rw [if_pos (by omega)]
    refine ⟨by rw [hc], ⟨fun b => b = hm, ?_, fun b hb => .inl hb⟩, (q0.mono (fun _ _ e => e.elim)).trans k1 (fun _ _ e => e)⟩
    unfold addE
    rw [if_pos hc, ha]
    refine h.added hn q0 k1 (.refl _) ⟨fun e => by omega, fun _ => ⟨hm, rfl, ?_, rfl⟩, fun e => by omega⟩ (fun b hb => .inl hb) (by omega) (by omega)
    unfold hEnts at *
    rw [List.map_append]
    exact h1

theorem add_a (h : Tb W bt m iv E F) (hkd : m.kd = 1) {W0 : World} (y : En) (q0 : Kept (fun _ => False) W W0) : ∃ a l c, iv = .iface 168 (.slice a l c) ∧ Calls Tryz.prog 200 #[.slice a l c, .pointer (some ⟨y.b, 0, none⟩), .int .i64 m.mx] W0 (AddPost W bt m iv E F y) := by
  have h0 := h.kept q0 (fun _ _ e => e)
  obtain ⟨sv, rfl, ho, rfl⟩ := h.kind.a hkd
  obtain ⟨a, c, rfl, -, -, -⟩ := own_form ho
  refine ⟨a, E.length, c, rfl, (arr_add (W := W0) (sv := .slice a E.length c) _ _).mono ?_⟩
  rintro e w' ⟨rfl, rfl⟩
  have hc : addC m E = 3 := by
    unfold addC
    rw [if_pos hkd]
  refine ⟨by rw [hc], ⟨_, ?_, fun b hb => .inl hb⟩, q0.mono (fun _ _ e => e.elim)⟩
  unfold addE
  rw [if_neg (by omega)]
  exact h0

/-- What a call of drop makes. -/
abbrev DropPost (W : World) (bt : Nat) (m : TM) (iv : Value) (E : List En) (F : Nat → Prop) (k : ByteArray) (e : Ending) (w' : World) : Prop :=
  e = .returned (.int .i64 (dropC m)) ∧ (∃ F', Tb w' bt m iv (dropM m k E) F' ∧ ∀ b, F' b → F b) ∧ Kept F W w'
theorem drop_l (h : Tb W bt m iv E F) (hkd : m.kd = 3) (k : ByteArray) : ∃ p, iv = .iface 166 (.agg #[p]) ∧ Calls Tryz.prog 184 #[.agg #[p], .string k] W (DropPost W bt m iv E F k) := by
  obtain ⟨bl, bm, ls, rfl, hl, hE, rfl⟩ := h.kind.l hkd
  refine ⟨_, rfl, (rec_drop (k := k) hl).mono ?_⟩
  rintro e w' ⟨rfl, h1, k1⟩
  have hm : dropM m k E = dropT k E := by unfold dropM; rw [if_neg (by omega)]
  refine ⟨by unfold dropC; rw [if_neg (by omega)], ⟨Lfp bl bm (dropE k ls), ?_, fun b hb => fp_drop hb⟩, k1⟩
  rw [hm]
  exact h.turn k1 (fun _ e => e) ⟨fun _ => ⟨bl, bm, dropE k ls, rfl, h1, pairs_drop hE k, rfl⟩, fun e => by omega, fun e => by omega⟩ (fun b hb => .inl (fp_drop hb)) (.refl _) List.filter_sublist (fun e => by omega)
theorem drop_h (h : Tb W bt m iv E F) (hkd : m.kd = 2) {k : ByteArray} {x : En} (hx : lookT k E = some x) : ∃ p, iv = .iface 162 (.map p) ∧ Calls Tryz.prog 155 #[.map p, .string k] W (DropPost W bt m iv E F k) := by
  obtain ⟨hm, rfl, ht, rfl⟩ := h.kind.h hkd
  rcases split_en h.keys k with ⟨e1, _, _⟩ | ⟨l1, z, l2, e0, e1, e2, e3⟩
  · rw [hx] at e1
    cases e1
  · have hh : hEnts E = hEnts l1 ++ ⟨z.b, z.key, ()⟩ :: hEnts l2 := by rw [e0]; simp [hEnts]
    have hkeys : ((hEnts l1 ++ ⟨z.b, z.key, ()⟩ :: hEnts l2).map (·.k)).Nodup := by
      rw [← hh, hEnts_keys]
      exact h.keys
    rw [hh] at ht
    have hd := hash_drop_hit ht hkeys
    simp only [e1] at hd
    refine ⟨_, rfl, hd.mono ?_⟩
    rintro e w' ⟨rfl, h1, k1⟩
    have hm' : dropM m k E = dropT k E := by unfold dropM; rw [if_neg (by omega)]
    refine ⟨by unfold dropC; rw [if_neg (by omega)], ⟨fun b => b = hm, ?_, fun b hb => hb⟩, k1⟩
    rw [hm']
    refine h.turn k1 (fun _ e => e) ⟨fun e => by omega, fun _ => ⟨hm, rfl, ?_, rfl⟩, fun e => by omega⟩ (fun b hb => .inl hb) (.refl _) List.filter_sublist (fun e => by omega)
    rw [e3]
    simpa [hEnts] using h1
theorem drop_a (h : Tb W bt m iv E F) (hkd : m.kd = 1) (k : ByteArray) : ∃ a l c, iv = .iface 168 (.slice a l c) ∧ Calls Tryz.prog 202 #[.slice a l c, .string k] W (DropPost W bt m iv E F k) := by
  have h0 := h
  obtain ⟨sv, rfl, ho, rfl⟩ := h.kind.a hkd
  obtain ⟨a, c, rfl, -, -, -⟩ := own_form ho
  refine ⟨a, E.length, c, rfl, (arr_drop (W := W) (sv := .slice a E.length c) _).mono ?_⟩
  rintro e w' ⟨rfl, rfl⟩
  refine ⟨by unfold dropC; rw [if_pos hkd], ⟨_, ?_, fun b hb => hb⟩, .refl _ _⟩
  unfold dropM
  rw [if_pos hkd]
  exact h0
end
end Go.Proofs.YtdkcnigghcbnpaaGreat

/- A table's kind through its interface, whatever it is; what Update makes of the entries. -/
namespace Go.Proofs.YtdkcnigghcbnpaaGreat
set_option linter.unusedVariables false
set_option linter.unusedSimpArgs false
open Go.RowKit Go.MapKept

/-- The interface's method that a value has. -/
structure Meth (T : Nat) (r : Value) (nm : String) (f : Nat) : Prop where
  m : ∀ n w, (method (n + 1) T r nm).run Tryz.prog w = .ok (f, r) w
  e : ∀ args w, (callFunc f args).run Tryz.prog w = .ok (.enter f args) w

section
variable {W W' : World} {bt : Nat} {m : TM} {iv : Value} {E E' : List En} {F F' : Nat → Prop} {a va : Option Addr} {n c vn vc : Nat} {k v : ByteArray} {fl : Int}

theorem peek_l (h : Tb W bt m iv E F) (hkd : m.kd = 3) (k : ByteArray) : ∃ p, iv = .iface 166 (.agg #[p]) ∧ (Calls Tryz.prog 185 #[.agg #[p], .string k] W fun e w' => e = .returned (enV (lookT k E)) ∧ Kept (fun _ => False) W w') ∧ Calls Tryz.prog 186 #[.agg #[p]] W fun e w' => e = .returned (.int .i64 (E.length : Nat)) ∧ Kept (fun _ => False) W w' := by
  obtain ⟨bl, bm, ls, rfl, hl, hE, rfl⟩ := h.kind.l hkd
  refine ⟨_, rfl, (rec_peek (k := k) hl).mono ?_, (rec_size hl).mono ?_⟩
  · rintro e w' ⟨rfl, h1⟩
    exact ⟨by rw [pairs_val hE], h1⟩
  · rintro e w' ⟨rfl, h1⟩
    exact ⟨by rw [pairs_len hE], h1⟩
theorem peek_h (h : Tb W bt m iv E F) (hkd : m.kd = 2) (k : ByteArray) : ∃ p, iv = .iface 162 (.map p) ∧ (Calls Tryz.prog 156 #[.map p, .string k] W fun e w' => e = .returned (enV (lookT k E)) ∧ Kept (fun _ => False) W w') ∧ Calls Tryz.prog 157 #[.map p] W fun e w' => e = .returned (.int .i64 (E.length : Nat)) ∧ Kept (fun _ => False) W w' := by
  obtain ⟨hm, rfl, ht, rfl⟩ := h.kind.h hkd
  refine ⟨_, rfl, (hash_peek (k := k) ht (by rw [hEnts_keys]; exact h.keys)).mono ?_, (hash_size ht).mono ?_⟩
  · rintro e w' ⟨rfl, rfl⟩
    exact ⟨by rw [hEnts_look], .refl _ _⟩
  · rintro e w' ⟨rfl, rfl⟩
    exact ⟨by simp [hEnts], .refl _ _⟩
theorem size_a (h : Tb W bt m iv E F) (hkd : m.kd = 1) : ∃ a l c, iv = .iface 168 (.slice a l c) ∧ Calls Tryz.prog 204 #[.slice a l c] W fun e w' => e = .returned (.int .i64 (E.length : Nat)) ∧ Kept (fun _ => False) W w' := by
  obtain ⟨sv, rfl, ho, rfl⟩ := h.kind.a hkd
  obtain ⟨a, c, rfl, -, -, -⟩ := own_form ho
  refine ⟨a, E.length, c, rfl, (arr_size (W := W) _ _ _).mono ?_⟩
  rintro e w' ⟨rfl, rfl⟩
  exact ⟨rfl, .refl _ _⟩

/-- What a call of use makes. -/
abbrev UsePost (W : World) (bt : Nat) (m : TM) (iv : Value) (E : List En) (F : Nat → Prop) (k : ByteArray) (e : Ending) (w' : World) : Prop :=
  e = .returned (enV (lookT k E)) ∧ (∃ F', Tb w' bt m iv (useT m k E) F' ∧ ∀ b, F' b → F b) ∧ Kept F W w'

/-- A table's kind, as an interface: its methods, and what they make. -/
structure Ops (bt : Nat) (m : TM) (iv : Value) (T fu fp fa fd fs : Nat) (r : Value) : Prop where
  e : iv = .iface T r
  u : Meth T r "swingbridge/table.use" fu
  p : Meth T r "swingbridge/table.peek" fp
  a : Meth T r "swingbridge/table.add" fa
  d : Meth T r "swingbridge/table.drop" fd
  s : Meth T r "swingbridge/table.size" fs
  ni : ∀ n w, (nilAhead (n + 1) T r "swingbridge/table.add").run Tryz.prog w = .ok (some false) w
  use : ∀ {W E F k}, Tb W bt m iv E F → (k.size : Int) = m.ks → Calls Tryz.prog fu #[r, .string k] W (UsePost W bt m iv E F k)
  peek : ∀ {W E F k}, Tb W bt m iv E F → (k.size : Int) = m.ks → Calls Tryz.prog fp #[r, .string k] W fun e w' => e = .returned (enV (lookT k E)) ∧ Kept (fun _ => False) W w'
  add : ∀ {W E F W0 y}, Tb W bt m iv E F → NewEn W W0 m E y → Kept (fun _ => False) W W0 → Calls Tryz.prog fa #[r, .pointer (some ⟨y.b, 0, none⟩), .int .i64 m.mx] W0 (AddPost W bt m iv E F y)
  drop : ∀ {W E F k}, Tb W bt m iv E F → (m.kd = 1 ∨ ∃ x, lookT k E = some x) → Calls Tryz.prog fd #[r, .string k] W (DropPost W bt m iv E F k)
  size : ∀ {W E F}, Tb W bt m iv E F → Calls Tryz.prog fs #[r] W fun e w' => e = .returned (.int .i64 (E.length : Nat)) ∧ Kept (fun _ => False) W w'

theorem ops_of (h : Tb W bt m iv E F) : ∃ T fu fp fa fd fs r, Ops bt m iv T fu fp fa fd fs r := by
  have hr := (rightB_iff _ _ _ _ _).1 h.right
  rcases (by omega : m.kd = 1 ∨ m.kd = 2 ∨ m.kd = 3) with hkd | hkd | hkd
  · obtain ⟨a, l, c, rfl, -⟩ := size_a h hkd
    refine ⟨168, 205, 203, 200, 202, 204, .slice a l c, rfl, ⟨fun n w => ma_use n a l c w, fun args w => enters_body Tryz.func205 (by kernel_rfl) rfl args w⟩, ⟨fun n w => ma_peek n a l c w, fun args w => enters_body Tryz.func203 (by kernel_rfl) rfl args w⟩, ⟨fun n w => ma_add n a l c w, fun args w => enters_body Tryz.func200 (by kernel_rfl) rfl args w⟩,
      ⟨fun n w => ma_drop n a l c w, fun args w => enters_body Tryz.func202 (by kernel_rfl) rfl args w⟩, ⟨fun n w => ma_size n a l c w, fun args w => enters_body Tryz.func204 (by kernel_rfl) rfl args w⟩, fun n w => ma_nil n a l c w, ?_, ?_, ?_, ?_, ?_⟩
    · intro W E F k h hk
      obtain ⟨a2, l2, c2, e2, h2, -⟩ := use_a h hkd hk
      obtain ⟨rfl, rfl, rfl⟩ : a = a2 ∧ l = l2 ∧ c = c2 := by simpa using e2
      refine h2.mono ?_
      rintro e w' ⟨rfl, rfl⟩
      refine ⟨rfl, ⟨F, ?_, fun _ h => h⟩, .refl _ _⟩
      rw [useT_same (by omega)]
      exact h
    · intro W E F k h hk
      obtain ⟨a2, l2, c2, e2, -, h2⟩ := use_a h hkd hk
      obtain ⟨rfl, rfl, rfl⟩ : a = a2 ∧ l = l2 ∧ c = c2 := by simpa using e2
      refine h2.mono ?_
      rintro e w' ⟨rfl, rfl⟩
      exact ⟨rfl, .refl _ _⟩
    · intro W E F W0 y h hn q0
      obtain ⟨a2, l2, c2, e2, h2⟩ := add_a h hkd y q0
      obtain ⟨rfl, rfl, rfl⟩ : a = a2 ∧ l = l2 ∧ c = c2 := by simpa using e2
      exact h2
    · intro W E F k h _
      obtain ⟨a2, l2, c2, e2, h2⟩ := drop_a h hkd k
      obtain ⟨rfl, rfl, rfl⟩ : a = a2 ∧ l = l2 ∧ c = c2 := by simpa using e2
      exact h2
    · intro W E F h
      obtain ⟨a2, l2, c2, e2, h2⟩ := size_a h hkd
      obtain ⟨rfl, rfl, rfl⟩ : a = a2 ∧ l = l2 ∧ c = c2 := by simpa using e2
      exact h2
  · obtain ⟨p, rfl, -⟩ := use_h (k := .empty) h hkd
    refine ⟨162, 158, 156, 153, 155, 157, .map p, rfl, ⟨fun n w => mh_use n p w, fun args w => enters_body Tryz.func158 (by kernel_rfl) rfl args w⟩, ⟨fun n w => mh_peek n p w, fun args w => enters_body Tryz.func156 (by kernel_rfl) rfl args w⟩, ⟨fun n w => mh_add n p w, fun args w => enters_body Tryz.func153 (by kernel_rfl) rfl args w⟩,
      ⟨fun n w => mh_drop n p w, fun args w => enters_body Tryz.func155 (by kernel_rfl) rfl args w⟩, ⟨fun n w => mh_size n p w, fun args w => enters_body Tryz.func157 (by kernel_rfl) rfl args w⟩, fun n w => mh_nil n p w, ?_, ?_, ?_, ?_, ?_⟩
    · intro W E F k h hk
      obtain ⟨p2, e2, h2⟩ := use_h (k := k) h hkd
      obtain rfl : p = p2 := by simpa using e2
      refine h2.mono ?_
      rintro e w' ⟨rfl, rfl⟩
      refine ⟨rfl, ⟨F, ?_, fun _ h => h⟩, .refl _ _⟩
      rw [useT_same (by omega)]
      exact h
    · intro W E F k h hk
      obtain ⟨p2, e2, h2, -⟩ := peek_h h hkd k
      obtain rfl : p = p2 := by simpa using e2
      exact h2
    · intro W E F W0 y h hn q0
      obtain ⟨p2, e2, h2⟩ := add_h h hkd hn q0
      obtain rfl : p = p2 := by simpa using e2
      exact h2
    · intro W E F k h hx
      obtain ⟨x, hx⟩ := hx.resolve_left (by omega)
      obtain ⟨p2, e2, h2⟩ := drop_h h hkd hx
      obtain rfl : p = p2 := by simpa using e2
      exact h2
    · intro W E F h
      obtain ⟨p2, e2, -, h2⟩ := peek_h h hkd .empty
      obtain rfl : p = p2 := by simpa using e2
      exact h2
  · obtain ⟨p, rfl, -⟩ := use_l (k := .empty) h hkd
    refine ⟨166, 187, 185, 182, 184, 186, .agg #[p], rfl, ⟨fun n w => ml_use n p w, fun args w => enters_body Tryz.func187 (by kernel_rfl) rfl args w⟩, ⟨fun n w => ml_peek n p w, fun args w => enters_body Tryz.func185 (by kernel_rfl) rfl args w⟩, ⟨fun n w => ml_add n p w, fun args w => enters_body Tryz.func182 (by kernel_rfl) rfl args w⟩,
      ⟨fun n w => ml_drop n p w, fun args w => enters_body Tryz.func184 (by kernel_rfl) rfl args w⟩, ⟨fun n w => ml_size n p w, fun args w => enters_body Tryz.func186 (by kernel_rfl) rfl args w⟩, fun n w => ml_nil n p w, ?_, ?_, ?_, ?_, ?_⟩
    · intro W E F k h hk
      obtain ⟨p2, e2, h2⟩ := use_l (k := k) h hkd
      obtain rfl : p = p2 := by simpa using e2
      refine h2.mono ?_
      rintro e w' ⟨rfl, F', h3, h4, k3⟩
      exact ⟨rfl, ⟨F', h3, h4⟩, k3⟩
    · intro W E F k h hk
      obtain ⟨p2, e2, h2, -⟩ := peek_l h hkd k
      obtain rfl : p = p2 := by simpa using e2
      exact h2
    · intro W E F W0 y h hn q0
      obtain ⟨p2, e2, h2⟩ := add_l h hkd hn q0
      obtain rfl : p = p2 := by simpa using e2
      exact h2
    · intro W E F k h hx
      obtain ⟨p2, e2, h2⟩ := drop_l h hkd k
      obtain rfl : p = p2 := by simpa using e2
      exact h2
    · intro W E F h
      obtain ⟨p2, e2, -, h2⟩ := peek_l h hkd .empty
      obtain rfl : p = p2 := by simpa using e2
      exact h2

/-- What Update answers. -/
def updC (m : TM) (k v : ByteArray) (fl : Int) (E : List En) : Int :=
  if (k.size : Int) ≠ m.ks ∨ (v.size : Int) ≠ m.vs ∨ fl < 0 ∨ 2 < fl then 1
  else if (lookT k E).isSome then (if fl = 1 then 4 else 0)
  else if fl = 2 then 3 else addC m E
def setT (k v : ByteArray) (E : List En) : List En := E.map fun x => if x.key = k then { x with data := v } else x
/-- What Update makes of the entries. -/
def UpdE (B : Nat) (m : TM) (k v : ByteArray) (fl : Int) (E E' : List En) : Prop :=
  if updC m k v fl E = 0 then (if (lookT k E).isSome then E' = setT k v (useT m k E) else ∃ eb ed ec, B ≤ eb ∧ B ≤ ed ∧ E' = addT m ⟨eb, ed, ec, k, v⟩ E) else E' = E
/-- What Update may write. -/
def UpdF (k : ByteArray) (E : List En) (F : Nat → Prop) (b : Nat) : Prop := F b ∨ ∃ x, lookT k E = some x ∧ b = x.d

theorem Tb.set (h : Tb W bt m iv E F) {x : En} (hx : x ∈ E) {v : ByteArray} (hv : (v.size : Int) = m.vs) (he : EnAt W' { x with data := v }) (q : Kept (fun b => b = x.d) W W') : Tb W' bt m iv (setT x.key v E) F := by
  have hS : ∀ b, F b → ¬ b = x.d := fun b hb => ((h.apart b hb).2 x hx).2
  have hbt : ¬ bt = x.d := fun e => (h.own x hx).2 e.symm
  have hl := h.row.lt
  have f1 : (setT x.key v E).map (fun z => (z.key, z.b)) = E.map fun z => (z.key, z.b) := by
    unfold setT
    rw [List.map_map]
    refine List.map_congr_left fun z _ => ?_
    simp only [Function.comp]
    split <;> rfl
  have f2 : hEnts (setT x.key v E) = hEnts E := by
    unfold setT hEnts
    rw [List.map_map]
    refine List.map_congr_left fun z _ => ?_
    simp only [Function.comp]
    split <;> rfl
  have f3 : (setT x.key v E).map (fun z => Value.pointer (some ⟨z.b, 0, none⟩)) = E.map fun z => Value.pointer (some ⟨z.b, 0, none⟩) := by
    unfold setT
    rw [List.map_map]
    refine List.map_congr_left fun z _ => ?_
    simp only [Function.comp]
    split <;> rfl
  have f4 : (setT x.key v E).length = E.length := by unfold setT; simp
  have f5 : (setT x.key v E).map (·.key) = E.map (·.key) := by
    unfold setT
    rw [List.map_map]
    refine List.map_congr_left fun z _ => ?_
    simp only [Function.comp]
    split <;> rfl
  have f6 : (setT x.key v E).flatMap (fun z => [z.b, z.d]) = E.flatMap fun z => [z.b, z.d] := by
    unfold setT
    rw [List.flatMap_map]
    refine congrArg (fun f => List.flatMap f E) (funext fun z => ?_)
    split <;> rfl
  have f7 : ∀ z ∈ setT x.key v E, ∃ z0 ∈ E, z.b = z0.b ∧ z.d = z0.d ∧ z.key = z0.key ∧ ((z0.key = x.key ∧ z = { z0 with data := v }) ∨ (z0.key ≠ x.key ∧ z = z0)) := by
    intro z hz
    unfold setT at hz
    obtain ⟨z0, h0, rfl⟩ := List.mem_map.1 hz
    refine ⟨z0, h0, ?_⟩
    by_cases e : z0.key = x.key
    · rw [if_pos e]
      exact ⟨rfl, rfl, rfl, .inl ⟨e, rfl⟩⟩
    · rw [if_neg e]
      exact ⟨rfl, rfl, rfl, .inr ⟨e, rfl⟩⟩
  refine ⟨h.right, h.row.kept q hbt, (q.cell (p := ⟨bt, 0, none⟩) hl hbt).trans h.c0, (q.cell (p := ⟨bt, 1, none⟩) hl hbt).trans h.c1, (q.cell (p := ⟨bt, 2, none⟩) hl hbt).trans h.c2, (q.cell (p := ⟨bt, 3, none⟩) hl hbt).trans h.c3,
    (q.cell (p := ⟨bt, 4, none⟩) hl hbt).trans h.c4, (q.cell (p := ⟨bt, 5, none⟩) hl hbt).trans h.c5, ?_, ?_, ?_, by rw [f5]; exact h.keys, by rw [f6]; exact h.blocks, ?_, ?_, by rw [f4]; exact h.len, fun e => by rw [f5]; exact h.arr e⟩
  · have hk := h.kind.kept q hS
    refine ⟨fun e => ?_, fun e => ?_, fun e => ?_⟩
    · obtain ⟨bl, bm, ls, h1, h2, h3, h4⟩ := hk.l e
      exact ⟨bl, bm, ls, h1, h2, h3.trans f1.symm, h4⟩
    · obtain ⟨hm, h1, h2, h3⟩ := hk.h e
      exact ⟨hm, h1, by rw [f2]; exact h2, h3⟩
    · obtain ⟨sv, h1, h2, h3⟩ := hk.a e
      exact ⟨sv, h1, by rw [f3, f4]; exact h2, h3⟩
  · intro z hz
    obtain ⟨z0, h0, -, -, -, ⟨e, rfl⟩ | ⟨e, rfl⟩⟩ := f7 z hz
    · have : z0 = x := by
        rcases split_en h.keys x.key with ⟨_, e2, _⟩ | ⟨l1, y, l2, e0, e1, e2, _⟩
        · exact (e2 x hx rfl).elim
        · have hu := h.keys
          have key : ∀ y1 ∈ E, ∀ y2 ∈ E, y1.key = y2.key → y1 = y2 := by
            intro y1 h1 y2 h2 e
            obtain ⟨i, hi, e1⟩ := List.getElem_of_mem h1
            obtain ⟨j, hj, e2⟩ := List.getElem_of_mem h2
            have : i = j := by
              refine (List.getElem_inj (h₀ := by simpa using hi) (h₁ := by simpa using hj) hu).1 ?_
              simp [e1, e2, e]
            subst this
            rw [← e1, ← e2]
          exact key _ h0 _ hx e
      subst this
      exact he
    · have hap := (blocks_ne h.blocks hx h0).2 e
      exact (h.en z h0).kept q hap.1 hap.2.1
  · intro z hz
    obtain ⟨z0, h0, -, -, -, ⟨e, rfl⟩ | ⟨e, rfl⟩⟩ := f7 z hz
    · exact ⟨(h.size z0 h0).1, hv⟩
    · exact h.size z h0
  · intro b hb
    refine ⟨(h.apart b hb).1, fun z hz => ?_⟩
    obtain ⟨z0, h0, e1, e2, -⟩ := f7 z hz
    rw [e1, e2]
    exact (h.apart b hb).2 z0 h0
  · intro z hz
    obtain ⟨z0, h0, e1, e2, -⟩ := f7 z hz
    rw [e1, e2]
    exact h.own z0 h0
end
end Go.Proofs.YtdkcnigghcbnpaaGreat

/- Update, whatever the kind. -/
namespace Go.Proofs.YtdkcnigghcbnpaaGreat
set_option linter.unusedVariables false
set_option linter.unusedSimpArgs false
open Go.RowKit Go.MapKept

section
variable {W W' : World} {bt : Nat} {m : TM} {iv : Value} {E E' : List En} {F F' : Nat → Prop} {a va : Option Addr} {n c vn vc : Nat} {k v : ByteArray} {fl : Int}

/-- What a call of Update makes. -/
abbrev UpdPost (W : World) (bt : Nat) (m : TM) (iv : Value) (E : List En) (F : Nat → Prop) (k v : ByteArray) (fl : Int) (e : Ending) (w' : World) : Prop :=
  e = .returned (.int .i64 (updC m k v fl E)) ∧ (∃ E' F', UpdE W.heap.size m k v fl E E' ∧ Tb w' bt m iv E' F' ∧ ∀ b, F' b → F b ∨ W.heap.size ≤ b) ∧ Kept (UpdF k E F) W w'

theorem update_any (h : Tb W bt m iv E F) (hk : BytesAt W a n k) (hv : BytesAt W va vn v) (hva : ∀ b o, va = some ⟨b, o, none⟩ → ¬ F b) :
    Calls Tryz.prog 31 #[.pointer (some ⟨bt, 0, none⟩), .slice a n c, .slice va vn vc, .int .i64 fl] W (UpdPost W bt m iv E F k v fl) := by
  have hr := (rightB_iff _ _ _ _ _).1 h.right
  have hn : (n : Int) = k.size := by rw [hk.1]
  have hvn : (vn : Int) = v.size := by rw [hv.1]
  by_cases hw : (k.size : Int) ≠ m.ks ∨ (v.size : Int) ≠ m.vs ∨ fl < 0 ∨ 2 < fl
  · have hc : updC m k v fl E = 1 := by unfold updC; rw [if_pos hw]
    refine (update_wrong (m := m) h.c2 h.c3 (by rw [hn, hvn]; exact hw)).mono ?_
    rintro e w' ⟨rfl, rfl⟩
    exact ⟨by rw [hc], ⟨E, F, by unfold UpdE; rw [hc, if_neg (by omega)], h, fun _ h => .inl h⟩, .refl _ _⟩
  have hw' : (k.size : Int) = m.ks ∧ (v.size : Int) = m.vs ∧ 0 ≤ fl ∧ fl ≤ 2 := by
    refine ⟨?_, ?_, ?_, ?_⟩ <;> omega
  obtain ⟨hks, hvs, hf0, hf2⟩ := hw'
  have hc2 : W.cell? ⟨bt, 2, none⟩ = some (.int .i64 (n : Nat)) := by rw [hn, hks]; exact h.c2
  have hc3 : W.cell? ⟨bt, 3, none⟩ = some (.int .i64 (vn : Nat)) := by rw [hvn, hvs]; exact h.c3
  obtain ⟨T, fu, fp, fa, fd, fs, r, O⟩ := ops_of h
  have hc5 : W.cell? ⟨bt, 5, none⟩ = some (.iface T r) := by rw [← O.e]; exact h.c5
  have hpk := O.peek h hks
  have hc0 : updC m k v fl E = if (lookT k E).isSome then (if fl = 1 then 4 else 0) else if fl = 2 then 3 else addC m E := by unfold updC; rw [if_neg hw]
  cases hx : lookT k E with
  | some x =>
    rw [hx] at hpk hc0
    simp only [Option.isSome_some, if_true] at hc0
    by_cases hf : fl = 1
    · rw [if_pos hf] at hc0
      refine (update_flag T fp r (some x) hc2 hc3 hc5 hk O.p.m O.p.e hpk (.inl ⟨rfl, hf⟩)).mono ?_
      rintro e w' ⟨rfl, k1⟩
      rw [if_pos hf]
      exact ⟨by rw [hc0], ⟨E, F, by unfold UpdE; rw [hc0, if_neg (by omega)], h.kept k1 (fun _ _ e => e), fun _ h => .inl h⟩, k1.mono (fun _ _ e => e.elim)⟩
    · rw [if_neg hf] at hc0
      obtain ⟨hxm, hxk⟩ := lookT_some hx
      have hxs := h.size x hxm
      refine (update_there (v := v) T fp fu r x (fun w' => (∃ F', Tb w' bt m iv (useT m k E) F' ∧ ∀ b, F' b → F b) ∧ Kept F W w') hc2 hc3 hc5 h.row.lt hk O.p.m O.p.e O.u.m O.u.e hpk ?_ (blocks_ne h.blocks hxm hxm).1 (by omega) (by omega) (by omega)).mono ?_
      · intro W' q
        refine (O.use (h.kept q (fun _ _ e => e)) hks).mono ?_
        rintro e w' ⟨rfl, ⟨F', h1, h2⟩, k2⟩
        rw [hx]
        have kk := (q.mono (S' := F) (fun _ _ e => e.elim)).trans k2 (fun _ _ e => e)
        exact ⟨rfl, h1.en x ((useT_perm h.keys m k).mem_iff.2 hxm), hv.kept kk hva, ⟨F', h1, h2⟩, kk⟩
      · rintro e w' ⟨rfl, w1, ⟨⟨F', h1, h2⟩, k1⟩, hx3, k3⟩
        refine ⟨by rw [hc0], ⟨setT k v (useT m k E), F', by unfold UpdE; rw [hc0, if_pos rfl, hx]; rfl, ?_, fun b hb => .inl (h2 b hb)⟩, ?_⟩
        · have := h1.set ((useT_perm h.keys m k).mem_iff.2 hxm) hvs hx3 k3
          rw [hxk] at this
          exact this
        · exact (k1.mono (fun b _ e => .inl e)).trans (k3.mono (fun b _ e => .inr ⟨x, hx, e⟩)) (fun _ _ e => e)
  | none =>
    rw [hx] at hpk hc0
    simp only [Option.isSome_none, Bool.false_eq_true, if_false] at hc0
    by_cases hf : fl = 2
    · rw [if_pos hf] at hc0
      refine (update_flag T fp r none hc2 hc3 hc5 hk O.p.m O.p.e hpk (.inr ⟨rfl, hf⟩)).mono ?_
      rintro e w' ⟨rfl, k1⟩
      rw [if_neg (by omega)]
      exact ⟨by rw [hc0], ⟨E, F, by unfold UpdE; rw [hc0, if_neg (by omega)], h.kept k1 (fun _ _ e => e), fun _ h => .inl h⟩, k1.mono (fun _ _ e => e.elim)⟩
    · rw [if_neg hf] at hc0
      refine (update_add T fp fa r m.mx (addC m E) (fun eb ed ec w' => (∃ F', Tb w' bt m iv (addE m ⟨eb, ed, ec, k, v⟩ E) F' ∧ ∀ b, F' b → F b ∨ W.heap.size ≤ b) ∧ Kept F W w') hc2 hc3 h.c4 hc5 h.row.lt hk hv O.p.m O.p.e O.a.m O.a.e O.ni hpk ?_ (by omega) (by omega) (by omega)).mono ?_
      · intro W' eb ed ec q hb hd hne hen
        refine (O.add (y := ⟨eb, ed, ec, k, v⟩) h ⟨hen, hb, hd, hne, hks, hvs, hx⟩ q).mono ?_
        rintro e w' ⟨rfl, ⟨F', h1, h2⟩, k2⟩
        exact ⟨rfl, by rw [h1.c5, O.e], h1.c4, ⟨F', h1, h2⟩, k2⟩
      · rintro e w' ⟨rfl, eb, ed, ec, hb, hd, hne, ⟨F', h1, h2⟩, k2⟩
        refine ⟨by rw [hc0], ⟨_, F', ?_, h1, h2⟩, k2.mono (fun _ _ e => .inl e)⟩
        unfold UpdE addE
        rw [hc0, hx]
        simp only [Option.isSome_none, Bool.false_eq_true, if_false]
        split
        · exact ⟨eb, ed, ec, hb, hd, rfl⟩
        · rfl
end
end Go.Proofs.YtdkcnigghcbnpaaGreat

/- Delete, whatever the kind. -/
namespace Go.Proofs.YtdkcnigghcbnpaaGreat
set_option linter.unusedVariables false
set_option linter.unusedSimpArgs false
open Go.RowKit Go.MapKept

section
variable {W W' : World} {bt : Nat} {m : TM} {iv : Value} {E E' : List En} {F F' : Nat → Prop} {a va : Option Addr} {n c vn vc : Nat} {k v : ByteArray} {fl : Int}

set_option maxRecDepth 100000 in
theorem delete_wrong (hc2 : W.cell? ⟨bt, 2, none⟩ = some (.int .i64 m.ks)) (hn : (n : Int) ≠ m.ks) : Calls Tryz.prog 30 #[.pointer (some ⟨bt, 0, none⟩), .slice a n c] W fun e w' => e = .returned (.int .i64 1) ∧ W = w' := by
  have hne : ((n : Int) != m.ks) = true := by simpa using hn
  generalize m.ks = ks at hc2 hne
  clear hn
  go_enter Tryz.func30, Tryz.ntmps30
  go_wp2_with fail
  go_ret
  exact ⟨rfl, rfl⟩

set_option maxRecDepth 100000 in
set_option maxHeartbeats 1000000 in
/-- Not there. -/
theorem delete_none (T fp : Nat) (r : Value) (kd : Int) (hkd : kd ≠ 1) (hb : bt < W.heap.size) (hc1 : W.cell? ⟨bt, 1, none⟩ = some (.int .i64 kd)) (hc2 : W.cell? ⟨bt, 2, none⟩ = some (.int .i64 (n : Nat))) (hc5 : W.cell? ⟨bt, 5, none⟩ = some (.iface T r)) (hk : BytesAt W a n k)
    (hm : ∀ n w, (method (n + 1) T r "swingbridge/table.peek").run Tryz.prog w = .ok (fp, r) w) (eg : ∀ args w, (callFunc fp args).run Tryz.prog w = .ok (.enter fp args) w)
    (hp : ∀ W', Kept (fun _ => False) W W' → Calls Tryz.prog fp #[r, .string k] W' fun e w' => e = .returned (.pointer none) ∧ Kept (fun _ => False) W' w') :
    Calls Tryz.prog 30 #[.pointer (some ⟨bt, 0, none⟩), .slice a n c] W fun e w' => e = .returned (.int .i64 3) ∧ Kept (fun _ => False) W w' := by
  have hne : (kd != 1) = true := by simpa using hkd
  have HC := Lib.hid hp
  have HK := Lib.hid hk
  clear hp hk hkd
  go_enter Tryz.func30, Tryz.ntmps30
  go_wp2_with fail
  refine wp_of_WR (n := 0) ?_
  refine wpW_region_tail 13 (by kernel_rfl) (by kernel_rfl) ?_
  obtain ⟨w5, hw5, t5⟩ : ∃ w5, w5 = ({ W with drawn := W.drawn + 1 } : World) ∧ Twin w5 W := ⟨_, rfl, rfl, rfl, rfl, rfl⟩
  rw [← hw5]
  simp only [List.take_succ_cons, List.take_zero, List.drop_succ_cons, List.drop_zero]
  have hc15 : w5.cell? ⟨bt, 1, none⟩ = some (.int .i64 kd) := by obtain ⟨_, rfl⟩ := t5.eq; exact hc1
  have hc55 : w5.cell? ⟨bt, 5, none⟩ = some (.iface T r) := by obtain ⟨_, rfl⟩ := t5.eq; exact hc5
  have hcv := (HK.out.twin t5).conv (c := c)
  have K5 := Lib.hid ((Kept.refl (fun _ => False) W).twin t5)
  have CALL := Lib.hid (HC.out w5 K5.out)
  clear hw5 t5 hc5 hc2 HC HK hc1
  iterate 13 (with_reducible refine wpStill_want (by kernel_rfl) (fun K hK => ?_); go_simp; with_reducible refine hK _ ?_; clear hK K)
  refine wpStill_nil ?_
  gi_wp2_with fail
  refine callsIn_WR.2 (CALL.out.mono ?_)
  rintro e w6 ⟨rfl, k6⟩
  have K6 := Lib.hid (K5.out.trans k6 (fun _ _ e => e))
  clear k6 CALL K5
  gi_wp2_with fail
  go_wp2_with fail
  go_ret
  exact ⟨rfl, K6.out⟩

set_option maxRecDepth 100000 in
set_option maxHeartbeats 1000000 in
/-- There: let go. -/
theorem delete_some (T fp fd : Nat) (r : Value) (x : En) (code : Int) (R : World → Prop) (kd : Int) (hkd : kd ≠ 1) (hb : bt < W.heap.size) (hc1 : W.cell? ⟨bt, 1, none⟩ = some (.int .i64 kd)) (hc2 : W.cell? ⟨bt, 2, none⟩ = some (.int .i64 (n : Nat))) (hc5 : W.cell? ⟨bt, 5, none⟩ = some (.iface T r)) (hk : BytesAt W a n k)
    (hm : ∀ n w, (method (n + 1) T r "swingbridge/table.peek").run Tryz.prog w = .ok (fp, r) w) (eg : ∀ args w, (callFunc fp args).run Tryz.prog w = .ok (.enter fp args) w)
    (hm2 : ∀ n w, (method (n + 1) T r "swingbridge/table.drop").run Tryz.prog w = .ok (fd, r) w) (eg2 : ∀ args w, (callFunc fd args).run Tryz.prog w = .ok (.enter fd args) w)
    (hp : ∀ W', Kept (fun _ => False) W W' → Calls Tryz.prog fp #[r, .string k] W' fun e w' => e = .returned (.pointer (some ⟨x.b, 0, none⟩)) ∧ Kept (fun _ => False) W' w')
    (hd : ∀ W', Kept (fun _ => False) W W' → Calls Tryz.prog fd #[r, .string k] W' fun e w' => e = .returned (.int .i64 code) ∧ R w') :
    Calls Tryz.prog 30 #[.pointer (some ⟨bt, 0, none⟩), .slice a n c] W fun e w' => e = .returned (.int .i64 code) ∧ R w' := by
  have hne : (kd != 1) = true := by simpa using hkd
  have HC := Lib.hid hp
  have HD := Lib.hid hd
  have HK := Lib.hid hk
  have HB := Lib.hid hb
  clear hp hk hkd hd hb
  go_enter Tryz.func30, Tryz.ntmps30
  go_wp2_with fail
  refine wp_of_WR (n := 0) ?_
  refine wpW_region_tail 13 (by kernel_rfl) (by kernel_rfl) ?_
  obtain ⟨w5, hw5, t5⟩ : ∃ w5, w5 = ({ W with drawn := W.drawn + 1 } : World) ∧ Twin w5 W := ⟨_, rfl, rfl, rfl, rfl, rfl⟩
  rw [← hw5]
  simp only [List.take_succ_cons, List.take_zero, List.drop_succ_cons, List.drop_zero]
  have hc15 : w5.cell? ⟨bt, 1, none⟩ = some (.int .i64 kd) := by obtain ⟨_, rfl⟩ := t5.eq; exact hc1
  have hc55 : w5.cell? ⟨bt, 5, none⟩ = some (.iface T r) := by obtain ⟨_, rfl⟩ := t5.eq; exact hc5
  have hcv := (HK.out.twin t5).conv (c := c)
  have K5 := Lib.hid ((Kept.refl (fun _ => False) W).twin t5)
  have CALL := Lib.hid (HC.out w5 K5.out)
  clear hw5 t5 hc2 HC hc1
  iterate 13 (with_reducible refine wpStill_want (by kernel_rfl) (fun K hK => ?_); go_simp; with_reducible refine hK _ ?_; clear hK K)
  refine wpStill_nil ?_
  gi_wp2_with fail
  refine callsIn_WR.2 (CALL.out.mono ?_)
  rintro e w6 ⟨rfl, k6⟩
  have K6 := Lib.hid (K5.out.trans k6 (fun _ _ e => e))
  clear k6 CALL K5 hc55 hcv hc15
  have hc56 : w6.cell? ⟨bt, 5, none⟩ = some (.iface T r) := (K6.out.cell (p := ⟨bt, 5, none⟩) HB.out (fun e => e)).trans hc5
  clear hc5
  gi_wp2_with fail
  go_wp2_with fail
  refine wp_of_WR (n := 0) ?_
  refine wpW_region_tail 6 (by kernel_rfl) (by kernel_rfl) ?_
  obtain ⟨w7, hw7, t7⟩ : ∃ w7, w7 = ({ w6 with drawn := w6.drawn + 1 } : World) ∧ Twin w7 w6 := ⟨_, rfl, rfl, rfl, rfl, rfl⟩
  rw [← hw7]
  simp only [List.take_succ_cons, List.take_zero, List.drop_succ_cons, List.drop_zero]
  have hc57 : w7.cell? ⟨bt, 5, none⟩ = some (.iface T r) := by obtain ⟨_, rfl⟩ := t7.eq; exact hc56
  have hcv7 := ((HK.out.kept K6.out (fun _ _ _ e => e)).twin t7).conv (c := c)
  have DROP := Lib.hid (HD.out w7 (K6.out.twin t7))
  clear hw7 t7 HD hc56 HK
  iterate 6 (with_reducible refine wpStill_want (by kernel_rfl) (fun K hK => ?_); go_simp; with_reducible refine hK _ ?_; clear hK K)
  refine wpStill_nil ?_
  gi_wp2_with fail
  refine callsIn_WR.2 (DROP.out.mono ?_)
  rintro e w8 ⟨rfl, hr⟩
  have HR := Lib.hid hr
  clear hr DROP
  gi_wp2_with fail
  go_wp2_with fail
  go_ret
  exact ⟨rfl, HR.out⟩

set_option maxRecDepth 100000 in
set_option maxHeartbeats 1000000 in
/-- An array: dropped whatever it is. -/
theorem delete_arr (T fd : Nat) (r : Value) (code : Int) (R : World → Prop) (hc1 : W.cell? ⟨bt, 1, none⟩ = some (.int .i64 1)) (hc2 : W.cell? ⟨bt, 2, none⟩ = some (.int .i64 (n : Nat))) (hc5 : W.cell? ⟨bt, 5, none⟩ = some (.iface T r)) (hk : BytesAt W a n k)
    (hm2 : ∀ n w, (method (n + 1) T r "swingbridge/table.drop").run Tryz.prog w = .ok (fd, r) w) (eg2 : ∀ args w, (callFunc fd args).run Tryz.prog w = .ok (.enter fd args) w)
    (hd : ∀ W', Kept (fun _ => False) W W' → Calls Tryz.prog fd #[r, .string k] W' fun e w' => e = .returned (.int .i64 code) ∧ R w') :
    Calls Tryz.prog 30 #[.pointer (some ⟨bt, 0, none⟩), .slice a n c] W fun e w' => e = .returned (.int .i64 code) ∧ R w' := by
  have HD := Lib.hid hd
  have HK := Lib.hid hk
  clear hk hd
  go_enter Tryz.func30, Tryz.ntmps30
  go_wp2_with fail
  refine wp_of_WR (n := 0) ?_
  refine wpW_region_tail 13 (by kernel_rfl) (by kernel_rfl) ?_
  obtain ⟨w5, hw5, t5⟩ : ∃ w5, w5 = ({ W with drawn := W.drawn + 1 } : World) ∧ Twin w5 W := ⟨_, rfl, rfl, rfl, rfl, rfl⟩
  rw [← hw5]
  simp only [List.take_succ_cons, List.take_zero, List.drop_succ_cons, List.drop_zero]
  have hc15 : w5.cell? ⟨bt, 1, none⟩ = some (.int .i64 1) := by obtain ⟨_, rfl⟩ := t5.eq; exact hc1
  have hc56 : w5.cell? ⟨bt, 5, none⟩ = some (.iface T r) := by obtain ⟨_, rfl⟩ := t5.eq; exact hc5
  have K6 := Lib.hid ((Kept.refl (fun _ => False) W).twin t5)
  clear hw5 t5 hc2 hc1 hc5
  iterate 7 (with_reducible refine wpStill_want (by kernel_rfl) (fun K hK => ?_); go_simp; with_reducible refine hK _ ?_; clear hK K)
  iterate 6 (with_reducible refine wpStill_pass (by kernel_rfl) (fun K hK => ?_); go_simp; with_reducible refine hK _ ?_; clear hK K)
  refine wpStill_nil ?_
  gi_wp2_with fail
  go_wp2_with fail
  refine wp_of_WR (n := 0) ?_
  refine wpW_region_tail 6 (by kernel_rfl) (by kernel_rfl) ?_
  obtain ⟨w7, hw7, t7⟩ : ∃ w7, w7 = ({ w5 with drawn := w5.drawn + 1 } : World) ∧ Twin w7 w5 := ⟨_, rfl, rfl, rfl, rfl, rfl⟩
  rw [← hw7]
  simp only [List.take_succ_cons, List.take_zero, List.drop_succ_cons, List.drop_zero]
  have hc57 : w7.cell? ⟨bt, 5, none⟩ = some (.iface T r) := by obtain ⟨_, rfl⟩ := t7.eq; exact hc56
  have hcv7 := ((HK.out.kept K6.out (fun _ _ _ e => e)).twin t7).conv (c := c)
  have DROP := Lib.hid (HD.out w7 (K6.out.twin t7))
  clear hw7 t7 HD hc56 HK hc15
  iterate 6 (with_reducible refine wpStill_want (by kernel_rfl) (fun K hK => ?_); go_simp; with_reducible refine hK _ ?_; clear hK K)
  refine wpStill_nil ?_
  gi_wp2_with fail
  refine callsIn_WR.2 (DROP.out.mono ?_)
  rintro e w8 ⟨rfl, hr⟩
  have HR := Lib.hid hr
  clear hr DROP
  gi_wp2_with fail
  go_wp2_with fail
  go_ret
  exact ⟨rfl, HR.out⟩

/-- What Delete answers, and leaves. -/
def delC (m : TM) (k : ByteArray) (E : List En) : Int := if (k.size : Int) ≠ m.ks then 1 else if m.kd = 1 then 6 else if (lookT k E).isSome then 0 else 3
def delE (m : TM) (k : ByteArray) (E : List En) : List En := if m.kd = 1 then E else dropT k E
theorem delete_any (h : Tb W bt m iv E F) (hk : BytesAt W a n k) :
    Calls Tryz.prog 30 #[.pointer (some ⟨bt, 0, none⟩), .slice a n c] W fun e w' => e = .returned (.int .i64 (delC m k E)) ∧ (∃ F', Tb w' bt m iv (delE m k E) F' ∧ ∀ b, F' b → F b) ∧ Kept F W w' := by
  have hr := (rightB_iff _ _ _ _ _).1 h.right
  have hn : (n : Int) = k.size := by rw [hk.1]
  have hnone : lookT k E = none → delE m k E = E := by
    intro e
    unfold delE
    split
    · rfl
    · rcases split_en h.keys k with ⟨_, _, e2⟩ | ⟨_, _, _, _, _, e1, _⟩
      · exact e2
      · rw [e] at e1
        cases e1
  by_cases hks : (k.size : Int) = m.ks
  case neg =>
    refine (delete_wrong (m := m) h.c2 (by omega)).mono ?_
    rintro e w' ⟨rfl, rfl⟩
    refine ⟨by unfold delC; rw [if_pos hks], ⟨F, ?_, fun _ h => h⟩, .refl _ _⟩
    rw [hnone (lookT_wrong h hks)]
    exact h
  obtain ⟨T, fu, fp, fa, fd, fs, r, O⟩ := ops_of h
  have hc5 : W.cell? ⟨bt, 5, none⟩ = some (.iface T r) := by rw [← O.e]; exact h.c5
  have hc2 : W.cell? ⟨bt, 2, none⟩ = some (.int .i64 (n : Nat)) := by rw [hn, hks]; exact h.c2
  by_cases hkd : m.kd = 1
  · have e1 : delC m k E = dropC m := by unfold delC dropC; rw [if_neg (by omega), if_pos hkd, if_pos hkd]
    have e2 : delE m k E = dropM m k E := by unfold delE dropM; rfl
    rw [e1, e2]
    refine delete_arr T fd r _ _ (by rw [← hkd]; exact h.c1) hc2 hc5 hk O.d.m O.d.e (fun W' q => ?_)
    refine (O.drop (h.kept q (fun _ _ e => e)) (.inl hkd)).mono ?_
    rintro e w' ⟨rfl, h1, k1⟩
    exact ⟨rfl, h1, (q.mono (fun _ _ e => e.elim)).trans k1 (fun _ _ e => e)⟩
  · cases hx : lookT k E with
    | none =>
      refine (delete_none T fp r m.kd hkd h.row.lt h.c1 hc2 hc5 hk O.p.m O.p.e (fun W' q => ?_)).mono ?_
      · have := O.peek (h.kept q (fun _ _ e => e)) hks
        rw [hx] at this
        exact this
      · rintro e w' ⟨rfl, k1⟩
        refine ⟨by unfold delC; rw [if_neg (by omega), if_neg hkd, hx]; rfl, ⟨F, ?_, fun _ h => h⟩, k1.mono (fun _ _ e => e.elim)⟩
        rw [hnone hx]
        exact h.kept k1 (fun _ _ e => e)
    | some x =>
      have e1 : delC m k E = dropC m := by unfold delC dropC; rw [if_neg (by omega), if_neg hkd, if_neg hkd, hx]; rfl
      have e2 : delE m k E = dropM m k E := by unfold delE dropM; rfl
      rw [e1, e2]
      refine delete_some T fp fd r x _ _ m.kd hkd h.row.lt h.c1 hc2 hc5 hk O.p.m O.p.e O.d.m O.d.e (fun W' q => ?_) (fun W' q => ?_)
      · have := O.peek (h.kept q (fun _ _ e => e)) hks
        rw [hx] at this
        exact this
      · refine (O.drop (h.kept q (fun _ _ e => e)) (.inr ⟨x, hx⟩)).mono ?_
        rintro e w' ⟨rfl, h1, k1⟩
        exact ⟨rfl, h1, (q.mono (fun _ _ e => e.elim)).trans k1 (fun _ _ e => e)⟩
end
end Go.Proofs.YtdkcnigghcbnpaaGreat
