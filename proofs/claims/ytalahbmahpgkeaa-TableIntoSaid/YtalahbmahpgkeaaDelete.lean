/- Delete, whatever the kind. -/
import Derived.Test.YtalahbmahpgkeaaKOps
namespace Go.Proofs.Ytalahbmahpgkeaa
set_option linter.unusedVariables false
set_option linter.unusedSimpArgs false
open Go.RowKit Go.MapKept

section
variable {W W' : World} {bt : Nat} {m : TM} {iv : Value} {E E' : List En} {F F' : Nat → Prop} {a va : Option Addr} {n c vn vc : Nat} {k v : ByteArray} {fl : Int}

set_option maxRecDepth 100000 in
theorem delete_wrong (hc2 : W.cell? ⟨bt, 2, none⟩ = some (.int .i64 m.ks)) (hn : (n : Int) ≠ m.ks) : Calls Try.prog 23 #[.pointer (some ⟨bt, 0, none⟩), .slice a n c] W fun e w' => e = .returned (.int .i64 1) ∧ W = w' := by
  have hne : ((n : Int) != m.ks) = true := by simpa using hn
  generalize m.ks = ks at hc2 hne
  clear hn
  go_enter Try.func23, Try.ntmps23
  go_wp2_with fail
  go_ret
  exact ⟨rfl, rfl⟩

set_option maxRecDepth 100000 in
set_option maxHeartbeats 1000000 in
/-- Not there. -/
theorem delete_none (T fp : Nat) (r : Value) (kd : Int) (hkd : kd ≠ 1) (hb : bt < W.heap.size) (hc1 : W.cell? ⟨bt, 1, none⟩ = some (.int .i64 kd)) (hc2 : W.cell? ⟨bt, 2, none⟩ = some (.int .i64 (n : Nat))) (hc5 : W.cell? ⟨bt, 5, none⟩ = some (.iface T r)) (hk : BytesAt W a n k)
    (hm : ∀ n w, (method (n + 1) T r "swingbridge/table.peek").run Try.prog w = .ok (fp, r) w) (eg : ∀ args w, (callFunc fp args).run Try.prog w = .ok (.enter fp args) w)
    (hp : ∀ W', Kept (fun _ => False) W W' → Calls Try.prog fp #[r, .string k] W' fun e w' => e = .returned (.pointer none) ∧ Kept (fun _ => False) W' w') :
    Calls Try.prog 23 #[.pointer (some ⟨bt, 0, none⟩), .slice a n c] W fun e w' => e = .returned (.int .i64 3) ∧ Kept (fun _ => False) W w' := by
  have hne : (kd != 1) = true := by simpa using hkd
  have HC := Lib.hid hp
  have HK := Lib.hid hk
  clear hp hk hkd
  go_enter Try.func23, Try.ntmps23
  go_wp2_with fail
  refine wp_of_WR (n := 0) ?_
  refine wpW_region_tail 13 (by kernel_rfl) (by kernel_rfl) ?_
  obtain ⟨w5, hw5, t5⟩ : ∃ w5, w5 = ({ W with drawn := W.drawn + 1 } : World) ∧ Twin w5 W := ⟨_, rfl, rfl, rfl, rfl, rfl⟩
  rw [← hw5]
  simp only [List.take_succ_cons, List.take_zero, List.drop_succ_cons, List.drop_zero]
  have hc15 : w5.cell? ⟨bt, 1, none⟩ = some (.int .i64 kd) := by obtain ⟨_, rfl⟩ := t5.eq; exact hc1
  have hc55 : w5.cell? ⟨bt, 5, none⟩ = some (.iface T r) := by obtain ⟨_, rfl⟩ := t5.eq; exact hc5
  have hcv := (HK.out.twin t5).conv (c := c)
  have K5 := Lib.hid ((Kept.refl (fun _ => False) W).twin t5)
  have CALL := Lib.hid (HC.out w5 K5.out)
  clear hw5 t5 hc5 hc2 HC HK hc1
  iterate 13 (with_reducible refine wpStill_want (by kernel_rfl) (fun K hK => ?_); go_simp; with_reducible refine hK _ ?_; clear hK K)
  refine wpStill_nil ?_
  gi_wp2_with fail
  refine callsIn_WR.2 (CALL.out.mono ?_)
  rintro e w6 ⟨rfl, k6⟩
  have K6 := Lib.hid (K5.out.trans k6 (fun _ _ e => e))
  clear k6 CALL K5
  gi_wp2_with fail
  go_wp2_with fail
  go_ret
  exact ⟨rfl, K6.out⟩

set_option maxRecDepth 100000 in
set_option maxHeartbeats 1000000 in
/-- There: let go. -/
theorem delete_some (T fp fd : Nat) (r : Value) (x : En) (code : Int) (R : World → Prop) (kd : Int) (hkd : kd ≠ 1) (hb : bt < W.heap.size) (hc1 : W.cell? ⟨bt, 1, none⟩ = some (.int .i64 kd)) (hc2 : W.cell? ⟨bt, 2, none⟩ = some (.int .i64 (n : Nat))) (hc5 : W.cell? ⟨bt, 5, none⟩ = some (.iface T r)) (hk : BytesAt W a n k)
    (hm : ∀ n w, (method (n + 1) T r "swingbridge/table.peek").run Try.prog w = .ok (fp, r) w) (eg : ∀ args w, (callFunc fp args).run Try.prog w = .ok (.enter fp args) w)
    (hm2 : ∀ n w, (method (n + 1) T r "swingbridge/table.drop").run Try.prog w = .ok (fd, r) w) (eg2 : ∀ args w, (callFunc fd args).run Try.prog w = .ok (.enter fd args) w)
    (hp : ∀ W', Kept (fun _ => False) W W' → Calls Try.prog fp #[r, .string k] W' fun e w' => e = .returned (.pointer (some ⟨x.b, 0, none⟩)) ∧ Kept (fun _ => False) W' w')
    (hd : ∀ W', Kept (fun _ => False) W W' → Calls Try.prog fd #[r, .string k] W' fun e w' => e = .returned (.int .i64 code) ∧ R w') :
    Calls Try.prog 23 #[.pointer (some ⟨bt, 0, none⟩), .slice a n c] W fun e w' => e = .returned (.int .i64 code) ∧ R w' := by
  have hne : (kd != 1) = true := by simpa using hkd
  have HC := Lib.hid hp
  have HD := Lib.hid hd
  have HK := Lib.hid hk
  have HB := Lib.hid hb
  clear hp hk hkd hd hb
  go_enter Try.func23, Try.ntmps23
  go_wp2_with fail
  refine wp_of_WR (n := 0) ?_
  refine wpW_region_tail 13 (by kernel_rfl) (by kernel_rfl) ?_
  obtain ⟨w5, hw5, t5⟩ : ∃ w5, w5 = ({ W with drawn := W.drawn + 1 } : World) ∧ Twin w5 W := ⟨_, rfl, rfl, rfl, rfl, rfl⟩
  rw [← hw5]
  simp only [List.take_succ_cons, List.take_zero, List.drop_succ_cons, List.drop_zero]
  have hc15 : w5.cell? ⟨bt, 1, none⟩ = some (.int .i64 kd) := by obtain ⟨_, rfl⟩ := t5.eq; exact hc1
  have hc55 : w5.cell? ⟨bt, 5, none⟩ = some (.iface T r) := by obtain ⟨_, rfl⟩ := t5.eq; exact hc5
  have hcv := (HK.out.twin t5).conv (c := c)
  have K5 := Lib.hid ((Kept.refl (fun _ => False) W).twin t5)
  have CALL := Lib.hid (HC.out w5 K5.out)
  clear hw5 t5 hc2 HC hc1
  iterate 13 (with_reducible refine wpStill_want (by kernel_rfl) (fun K hK => ?_); go_simp; with_reducible refine hK _ ?_; clear hK K)
  refine wpStill_nil ?_
  gi_wp2_with fail
  refine callsIn_WR.2 (CALL.out.mono ?_)
  rintro e w6 ⟨rfl, k6⟩
  have K6 := Lib.hid (K5.out.trans k6 (fun _ _ e => e))
  clear k6 CALL K5 hc55 hcv hc15
  have hc56 : w6.cell? ⟨bt, 5, none⟩ = some (.iface T r) := (K6.out.cell (p := ⟨bt, 5, none⟩) HB.out (fun e => e)).trans hc5
  clear hc5
  gi_wp2_with fail
  go_wp2_with fail
  refine wp_of_WR (n := 0) ?_
  refine wpW_region_tail 6 (by kernel_rfl) (by kernel_rfl) ?_
  obtain ⟨w7, hw7, t7⟩ : ∃ w7, w7 = ({ w6 with drawn := w6.drawn + 1 } : World) ∧ Twin w7 w6 := ⟨_, rfl, rfl, rfl, rfl, rfl⟩
  rw [← hw7]
  simp only [List.take_succ_cons, List.take_zero, List.drop_succ_cons, List.drop_zero]
  have hc57 : w7.cell? ⟨bt, 5, none⟩ = some (.iface T r) := by obtain ⟨_, rfl⟩ := t7.eq; exact hc56
  have hcv7 := ((HK.out.kept K6.out (fun _ _ _ e => e)).twin t7).conv (c := c)
  have DROP := Lib.hid (HD.out w7 (K6.out.twin t7))
  clear hw7 t7 HD hc56 HK
  iterate 6 (with_reducible refine wpStill_want (by kernel_rfl) (fun K hK => ?_); go_simp; with_reducible refine hK _ ?_; clear hK K)
  refine wpStill_nil ?_
  gi_wp2_with fail
  refine callsIn_WR.2 (DROP.out.mono ?_)
  rintro e w8 ⟨rfl, hr⟩
  have HR := Lib.hid hr
  clear hr DROP
  gi_wp2_with fail
  go_wp2_with fail
  go_ret
  exact ⟨rfl, HR.out⟩

set_option maxRecDepth 100000 in
set_option maxHeartbeats 1000000 in
/-- An array: dropped whatever it is. -/
theorem delete_arr (T fd : Nat) (r : Value) (code : Int) (R : World → Prop) (hc1 : W.cell? ⟨bt, 1, none⟩ = some (.int .i64 1)) (hc2 : W.cell? ⟨bt, 2, none⟩ = some (.int .i64 (n : Nat))) (hc5 : W.cell? ⟨bt, 5, none⟩ = some (.iface T r)) (hk : BytesAt W a n k)
    (hm2 : ∀ n w, (method (n + 1) T r "swingbridge/table.drop").run Try.prog w = .ok (fd, r) w) (eg2 : ∀ args w, (callFunc fd args).run Try.prog w = .ok (.enter fd args) w)
    (hd : ∀ W', Kept (fun _ => False) W W' → Calls Try.prog fd #[r, .string k] W' fun e w' => e = .returned (.int .i64 code) ∧ R w') :
    Calls Try.prog 23 #[.pointer (some ⟨bt, 0, none⟩), .slice a n c] W fun e w' => e = .returned (.int .i64 code) ∧ R w' := by
  have HD := Lib.hid hd
  have HK := Lib.hid hk
  clear hk hd
  go_enter Try.func23, Try.ntmps23
  go_wp2_with fail
  refine wp_of_WR (n := 0) ?_
  refine wpW_region_tail 13 (by kernel_rfl) (by kernel_rfl) ?_
  obtain ⟨w5, hw5, t5⟩ : ∃ w5, w5 = ({ W with drawn := W.drawn + 1 } : World) ∧ Twin w5 W := ⟨_, rfl, rfl, rfl, rfl, rfl⟩
  rw [← hw5]
  simp only [List.take_succ_cons, List.take_zero, List.drop_succ_cons, List.drop_zero]
  have hc15 : w5.cell? ⟨bt, 1, none⟩ = some (.int .i64 1) := by obtain ⟨_, rfl⟩ := t5.eq; exact hc1
  have hc56 : w5.cell? ⟨bt, 5, none⟩ = some (.iface T r) := by obtain ⟨_, rfl⟩ := t5.eq; exact hc5
  have K6 := Lib.hid ((Kept.refl (fun _ => False) W).twin t5)
  clear hw5 t5 hc2 hc1 hc5
  iterate 7 (with_reducible refine wpStill_want (by kernel_rfl) (fun K hK => ?_); go_simp; with_reducible refine hK _ ?_; clear hK K)
  iterate 6 (with_reducible refine wpStill_pass (by kernel_rfl) (fun K hK => ?_); go_simp; with_reducible refine hK _ ?_; clear hK K)
  refine wpStill_nil ?_
  gi_wp2_with fail
  go_wp2_with fail
  refine wp_of_WR (n := 0) ?_
  refine wpW_region_tail 6 (by kernel_rfl) (by kernel_rfl) ?_
  obtain ⟨w7, hw7, t7⟩ : ∃ w7, w7 = ({ w5 with drawn := w5.drawn + 1 } : World) ∧ Twin w7 w5 := ⟨_, rfl, rfl, rfl, rfl, rfl⟩
  rw [← hw7]
  simp only [List.take_succ_cons, List.take_zero, List.drop_succ_cons, List.drop_zero]
  have hc57 : w7.cell? ⟨bt, 5, none⟩ = some (.iface T r) := by obtain ⟨_, rfl⟩ := t7.eq; exact hc56
  have hcv7 := ((HK.out.kept K6.out (fun _ _ _ e => e)).twin t7).conv (c := c)
  have DROP := Lib.hid (HD.out w7 (K6.out.twin t7))
  clear hw7 t7 HD hc56 HK hc15
  iterate 6 (with_reducible refine wpStill_want (by kernel_rfl) (fun K hK => ?_); go_simp; with_reducible refine hK _ ?_; clear hK K)
  refine wpStill_nil ?_
  gi_wp2_with fail
  refine callsIn_WR.2 (DROP.out.mono ?_)
  rintro e w8 ⟨rfl, hr⟩
  have HR := Lib.hid hr
  clear hr DROP
  gi_wp2_with fail
  go_wp2_with fail
  go_ret
  exact ⟨rfl, HR.out⟩

/-- What Delete answers, and leaves. -/
def delC (m : TM) (k : ByteArray) (E : List En) : Int := if (k.size : Int) ≠ m.ks then 1 else if m.kd = 1 then 6 else if (lookT k E).isSome then 0 else 3
def delE (m : TM) (k : ByteArray) (E : List En) : List En := if m.kd = 1 then E else dropT k E
theorem delete_any (h : Tb W bt m iv E F) (hk : BytesAt W a n k) :
    Calls Try.prog 23 #[.pointer (some ⟨bt, 0, none⟩), .slice a n c] W fun e w' => e = .returned (.int .i64 (delC m k E)) ∧ (∃ F', Tb w' bt m iv (delE m k E) F' ∧ ∀ b, F' b → F b) ∧ Kept F W w' := by
  have hr := (rightB_iff _ _ _ _ _).1 h.right
  have hn : (n : Int) = k.size := by rw [hk.1]
  have hnone : lookT k E = none → delE m k E = E := by
    intro e
    unfold delE
    split
    · rfl
    · rcases split_en h.keys k with ⟨_, _, e2⟩ | ⟨_, _, _, _, _, e1, _⟩
      · exact e2
      · rw [e] at e1
        cases e1
  by_cases hks : (k.size : Int) = m.ks
  case neg =>
    refine (delete_wrong (m := m) h.c2 (by omega)).mono ?_
    rintro e w' ⟨rfl, rfl⟩
    refine ⟨by unfold delC; rw [if_pos hks], ⟨F, ?_, fun _ h => h⟩, .refl _ _⟩
    rw [hnone (lookT_wrong h hks)]
    exact h
  obtain ⟨T, fu, fp, fa, fd, fs, r, O⟩ := ops_of h
  have hc5 : W.cell? ⟨bt, 5, none⟩ = some (.iface T r) := by rw [← O.e]; exact h.c5
  have hc2 : W.cell? ⟨bt, 2, none⟩ = some (.int .i64 (n : Nat)) := by rw [hn, hks]; exact h.c2
  by_cases hkd : m.kd = 1
  · have e1 : delC m k E = dropC m := by unfold delC dropC; rw [if_neg (by omega), if_pos hkd, if_pos hkd]
    have e2 : delE m k E = dropM m k E := by unfold delE dropM; rfl
    rw [e1, e2]
    refine delete_arr T fd r _ _ (by rw [← hkd]; exact h.c1) hc2 hc5 hk O.d.m O.d.e (fun W' q => ?_)
    refine (O.drop (h.kept q (fun _ _ e => e)) (.inl hkd)).mono ?_
    rintro e w' ⟨rfl, h1, k1⟩
    exact ⟨rfl, h1, (q.mono (fun _ _ e => e.elim)).trans k1 (fun _ _ e => e)⟩
  · cases hx : lookT k E with
    | none =>
      refine (delete_none T fp r m.kd hkd h.row.lt h.c1 hc2 hc5 hk O.p.m O.p.e (fun W' q => ?_)).mono ?_
      · have := O.peek (h.kept q (fun _ _ e => e)) hks
        rw [hx] at this
        exact this
      · rintro e w' ⟨rfl, k1⟩
        refine ⟨by unfold delC; rw [if_neg (by omega), if_neg hkd, hx]; rfl, ⟨F, ?_, fun _ h => h⟩, k1.mono (fun _ _ e => e.elim)⟩
        rw [hnone hx]
        exact h.kept k1 (fun _ _ e => e)
    | some x =>
      have e1 : delC m k E = dropC m := by unfold delC dropC; rw [if_neg (by omega), if_neg hkd, if_neg hkd, hx]; rfl
      have e2 : delE m k E = dropM m k E := by unfold delE dropM; rfl
      rw [e1, e2]
      refine delete_some T fp fd r x _ _ m.kd hkd h.row.lt h.c1 hc2 hc5 hk O.p.m O.p.e O.d.m O.d.e (fun W' q => ?_) (fun W' q => ?_)
      · have := O.peek (h.kept q (fun _ _ e => e)) hks
        rw [hx] at this
        exact this
      · refine (O.drop (h.kept q (fun _ _ e => e)) (.inr ⟨x, hx⟩)).mono ?_
        rintro e w' ⟨rfl, h1, k1⟩
        exact ⟨rfl, h1, (q.mono (fun _ _ e => e.elim)).trans k1 (fun _ _ e => e)⟩
end
end Go.Proofs.Ytalahbmahpgkeaa
