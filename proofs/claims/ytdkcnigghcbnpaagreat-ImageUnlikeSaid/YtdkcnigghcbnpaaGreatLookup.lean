/- table.Table.Lookup, whatever the kind. -/
import Derived.Test.YtdkcnigghcbnpaaGreatTblB
import Derived.Test.YtdkcnigghcbnpaaGreatIter
namespace Go.Proofs.YtdkcnigghcbnpaaGreat
set_option linter.unusedVariables false
set_option linter.unusedSimpArgs false
open Go.RowKit Go.MapKept

/-- A pointer that may be nil is not nil. -/
theorem run_neq_nil (w : World) (o : Option En) : (binOp .neq 41 (enV o) (.pointer none)).run Tryz.prog w = .ok (.bool o.isSome) w := by
  cases o <;> kernel_rfl

section
variable {W : World} {bt : Nat} {m : TM} {iv : Value} {E : List En} {F : Nat → Prop} {a : Option Addr} {n c : Nat} {k : ByteArray}

set_option maxRecDepth 100000 in
set_option maxHeartbeats 1000000 in
theorem lookup_of (T fid : Nat) (r : Value) (o : Option En) (R : World → Prop) (hc2 : W.cell? ⟨bt, 2, none⟩ = some (.int .i64 (n : Nat))) (hc5 : W.cell? ⟨bt, 5, none⟩ = some (.iface T r)) (hk : BytesAt W a n k)
    (hm : ∀ n w, (method (n + 1) T r "swingbridge/table.use").run Tryz.prog w = .ok (fid, r) w) (eg : ∀ args w, (callFunc fid args).run Tryz.prog w = .ok (.enter fid args) w)
    (hc : ∀ W', Twin W' W → Calls Tryz.prog fid #[r, .string k] W' fun e w' => e = .returned (enV o) ∧ R w') :
    Calls Tryz.prog 22 #[.pointer (some ⟨bt, 0, none⟩), .slice a n c] W fun e w' => e = .returned (.tuple #[enV o, .bool o.isSome]) ∧ R w' := by
  have HC := Lib.hid hc
  have HK := Lib.hid hk
  clear hc hk
  go_enter Tryz.func22, Tryz.ntmps22
  go_wp2_with fail
  refine wp_of_WR (n := 0) ?_
  refine wpW_region_tail 6 (by kernel_rfl) (by kernel_rfl) ?_
  obtain ⟨w5, hw5, t5⟩ : ∃ w5, w5 = ({ W with drawn := W.drawn + 1 } : World) ∧ Twin w5 W := ⟨_, rfl, rfl, rfl, rfl, rfl⟩
  rw [← hw5]
  simp only [List.take_succ_cons, List.take_zero, List.drop_succ_cons, List.drop_zero]
  have hc55 : w5.cell? ⟨bt, 5, none⟩ = some (.iface T r) := by obtain ⟨_, rfl⟩ := t5.eq; exact hc5
  have hcv := (HK.out.twin t5).conv (c := c)
  have CALL := Lib.hid (HC.out w5 t5)
  clear hw5 t5 hc5 hc2 HC HK
  iterate 6 (with_reducible refine wpStill_want (by kernel_rfl) (fun K hK => ?_); go_simp; with_reducible refine hK _ ?_; clear hK K)
  refine wpStill_nil ?_
  gi_wp2_with fail
  refine callsIn_WR.2 (CALL.out.mono ?_)
  rintro e w6 ⟨rfl, hr⟩
  have HR := Lib.hid hr
  clear hr CALL
  cases o with
  | none =>
    simp only [enV]
    gi_wp2_with fail
    go_wp2_with fail
    go_ret2
    exact ⟨rfl, HR.out⟩
  | some x =>
    simp only [enV]
    gi_wp2_with fail
    go_wp2_with fail
    go_ret2
    exact ⟨rfl, HR.out⟩

theorem lookup_wrong (hc2 : W.cell? ⟨bt, 2, none⟩ = some (.int .i64 m.ks)) (hn : (n : Int) ≠ m.ks) : Calls Tryz.prog 22 #[.pointer (some ⟨bt, 0, none⟩), .slice a n c] W fun e w' => e = .returned (.tuple #[.pointer none, .bool false]) ∧ W = w' := by
  have hne : ((n : Int) != m.ks) = true := by simpa using hn
  generalize m.ks = ks at hc2 hne
  clear hn
  go_enter Tryz.func22, Tryz.ntmps22
  go_wp2_with fail
  go_ret2
  exact ⟨rfl, rfl⟩

/-- What a use leaves of a table. -/
def Used (W : World) (bt : Nat) (m : TM) (iv : Value) (E' : List En) (F : Nat → Prop) (w' : World) : Prop := (∃ F', Tb w' bt m iv E' F' ∧ ∀ b, F' b → F b) ∧ Kept F W w'
theorem useT_none (h : lookT k E = none) : useT m k E = E := by
  unfold useT
  split
  · rw [h]
  · rfl
theorem useT_same (h : m.kd ≠ 3) : useT m k E = E := by
  unfold useT
  rw [if_neg h]

theorem lookup_any (h : Tb W bt m iv E F) (hk : BytesAt W a n k) :
    Calls Tryz.prog 22 #[.pointer (some ⟨bt, 0, none⟩), .slice a n c] W fun e w' => e = .returned (.tuple #[enV (lookT k E), .bool (lookT k E).isSome]) ∧ Used W bt m iv (useT m k E) F w' := by
  have hr := (rightB_iff _ _ _ _ _).1 h.right
  by_cases hn : (n : Int) = m.ks
  · have hks : (k.size : Int) = m.ks := by rw [← hk.1]; exact hn
    have hc2 : W.cell? ⟨bt, 2, none⟩ = some (.int .i64 (n : Nat)) := by rw [hn]; exact h.c2
    rcases (by omega : m.kd = 1 ∨ m.kd = 2 ∨ m.kd = 3) with e | e | e
    · obtain ⟨a', l', c', rfl, _⟩ := use_a (k := k) h e hks
      refine lookup_of 168 205 _ _ _ hc2 h.c5 hk (fun n w => ma_use n a' l' c' w) (fun args w => enters_body Tryz.func205 (by kernel_rfl) rfl args w) ?_
      intro W' t
      obtain ⟨a2, l2, c2, e2, h2, _⟩ := use_a (k := k) (h.twin t) e hks
      injection e2 with _ e2
      injection e2 with e3 e4 e5
      subst e3; subst e4; subst e5
      refine h2.mono ?_
      rintro e' w' ⟨rfl, rfl⟩
      rw [useT_same (by omega)]
      exact ⟨rfl, ⟨F, h.twin t, fun _ h => h⟩, (Kept.refl F W).twin t⟩
    · obtain ⟨p, rfl, _⟩ := use_h (k := k) h e
      refine lookup_of 162 158 _ _ _ hc2 h.c5 hk (fun n w => mh_use n p w) (fun args w => enters_body Tryz.func158 (by kernel_rfl) rfl args w) ?_
      intro W' t
      obtain ⟨p2, e2, h2⟩ := use_h (k := k) (h.twin t) e
      injection e2 with _ e2
      injection e2 with e2
      subst e2
      refine h2.mono ?_
      rintro e' w' ⟨rfl, rfl⟩
      rw [useT_same (by omega)]
      exact ⟨rfl, ⟨F, h.twin t, fun _ h => h⟩, (Kept.refl F W).twin t⟩
    · obtain ⟨p, rfl, _⟩ := use_l (k := k) h e
      refine lookup_of 166 187 _ _ _ hc2 h.c5 hk (fun n w => ml_use n p w) (fun args w => enters_body Tryz.func187 (by kernel_rfl) rfl args w) ?_
      intro W' t
      obtain ⟨p2, e2, h2⟩ := use_l (k := k) (h.twin t) e
      injection e2 with _ e2
      injection e2 with e2
      injection e2 with e2
      injection e2 with e2
      subst e2
      refine h2.mono ?_
      rintro e' w' ⟨rfl, F', h3, h4, k3⟩
      exact ⟨rfl, ⟨F', h3, h4⟩, ((Kept.refl F W).twin t).trans k3 (fun _ _ e => e)⟩
  · have hks : (k.size : Int) ≠ m.ks := by rw [← hk.1]; exact hn
    rw [lookT_wrong h hks, useT_none (lookT_wrong h hks)]
    refine (lookup_wrong (m := m) h.c2 hn).mono ?_
    rintro e w' ⟨rfl, rfl⟩
    exact ⟨rfl, ⟨F, h, fun _ h => h⟩, .refl _ _⟩
end
end Go.Proofs.YtdkcnigghcbnpaaGreat
