/- Update, whatever the kind. -/
import Derived.Test.YtalahbmahpgkeaaKOps
namespace Go.Proofs.Ytalahbmahpgkeaa
set_option linter.unusedVariables false
set_option linter.unusedSimpArgs false
open Go.RowKit Go.MapKept

section
variable {W W' : World} {bt : Nat} {m : TM} {iv : Value} {E E' : List En} {F F' : Nat → Prop} {a va : Option Addr} {n c vn vc : Nat} {k v : ByteArray} {fl : Int}

/-- What a call of Update makes. -/
abbrev UpdPost (W : World) (bt : Nat) (m : TM) (iv : Value) (E : List En) (F : Nat → Prop) (k v : ByteArray) (fl : Int) (e : Ending) (w' : World) : Prop :=
  e = .returned (.int .i64 (updC m k v fl E)) ∧ (∃ E' F', UpdE W.heap.size m k v fl E E' ∧ Tb w' bt m iv E' F' ∧ ∀ b, F' b → F b ∨ W.heap.size ≤ b) ∧ Kept (UpdF k E F) W w'

theorem update_any (h : Tb W bt m iv E F) (hk : BytesAt W a n k) (hv : BytesAt W va vn v) (hva : ∀ b o, va = some ⟨b, o, none⟩ → ¬ F b) :
    Calls Try.prog 20 #[.pointer (some ⟨bt, 0, none⟩), .slice a n c, .slice va vn vc, .int .i64 fl] W (UpdPost W bt m iv E F k v fl) := by
  have hr := (rightB_iff _ _ _ _ _).1 h.right
  have hn : (n : Int) = k.size := by rw [hk.1]
  have hvn : (vn : Int) = v.size := by rw [hv.1]
  by_cases hw : (k.size : Int) ≠ m.ks ∨ (v.size : Int) ≠ m.vs ∨ fl < 0 ∨ 2 < fl
  · have hc : updC m k v fl E = 1 := by unfold updC; rw [if_pos hw]
    refine (update_wrong (m := m) h.c2 h.c3 (by rw [hn, hvn]; exact hw)).mono ?_
    rintro e w' ⟨rfl, rfl⟩
    exact ⟨by rw [hc], ⟨E, F, by unfold UpdE; rw [hc, if_neg (by omega)], h, fun _ h => .inl h⟩, .refl _ _⟩
  have hw' : (k.size : Int) = m.ks ∧ (v.size : Int) = m.vs ∧ 0 ≤ fl ∧ fl ≤ 2 := by
    refine ⟨?_, ?_, ?_, ?_⟩ <;> omega
  obtain ⟨hks, hvs, hf0, hf2⟩ := hw'
  have hc2 : W.cell? ⟨bt, 2, none⟩ = some (.int .i64 (n : Nat)) := by rw [hn, hks]; exact h.c2
  have hc3 : W.cell? ⟨bt, 3, none⟩ = some (.int .i64 (vn : Nat)) := by rw [hvn, hvs]; exact h.c3
  obtain ⟨T, fu, fp, fa, fd, fs, r, O⟩ := ops_of h
  have hc5 : W.cell? ⟨bt, 5, none⟩ = some (.iface T r) := by rw [← O.e]; exact h.c5
  have hpk := O.peek h hks
  have hc0 : updC m k v fl E = if (lookT k E).isSome then (if fl = 1 then 4 else 0) else if fl = 2 then 3 else addC m E := by unfold updC; rw [if_neg hw]
  cases hx : lookT k E with
  | some x =>
    rw [hx] at hpk hc0
    simp only [Option.isSome_some, if_true] at hc0
    by_cases hf : fl = 1
    · rw [if_pos hf] at hc0
      refine (update_flag T fp r (some x) hc2 hc3 hc5 hk O.p.m O.p.e hpk (.inl ⟨rfl, hf⟩)).mono ?_
      rintro e w' ⟨rfl, k1⟩
      rw [if_pos hf]
      exact ⟨by rw [hc0], ⟨E, F, by unfold UpdE; rw [hc0, if_neg (by omega)], h.kept k1 (fun _ _ e => e), fun _ h => .inl h⟩, k1.mono (fun _ _ e => e.elim)⟩
    · rw [if_neg hf] at hc0
      obtain ⟨hxm, hxk⟩ := lookT_some hx
      have hxs := h.size x hxm
      refine (update_there (v := v) T fp fu r x (fun w' => (∃ F', Tb w' bt m iv (useT m k E) F' ∧ ∀ b, F' b → F b) ∧ Kept F W w') hc2 hc3 hc5 h.row.lt hk O.p.m O.p.e O.u.m O.u.e hpk ?_ (blocks_ne h.blocks hxm hxm).1 (by omega) (by omega) (by omega)).mono ?_
      · intro W' q
        refine (O.use (h.kept q (fun _ _ e => e)) hks).mono ?_
        rintro e w' ⟨rfl, ⟨F', h1, h2⟩, k2⟩
        rw [hx]
        have kk := (q.mono (S' := F) (fun _ _ e => e.elim)).trans k2 (fun _ _ e => e)
        exact ⟨rfl, h1.en x ((useT_perm h.keys m k).mem_iff.2 hxm), hv.kept kk hva, ⟨F', h1, h2⟩, kk⟩
      · rintro e w' ⟨rfl, w1, ⟨⟨F', h1, h2⟩, k1⟩, hx3, k3⟩
        refine ⟨by rw [hc0], ⟨setT k v (useT m k E), F', by unfold UpdE; rw [hc0, if_pos rfl, hx]; rfl, ?_, fun b hb => .inl (h2 b hb)⟩, ?_⟩
        · have := h1.set ((useT_perm h.keys m k).mem_iff.2 hxm) hvs hx3 k3
          rw [hxk] at this
          exact this
        · exact (k1.mono (fun b _ e => .inl e)).trans (k3.mono (fun b _ e => .inr ⟨x, hx, e⟩)) (fun _ _ e => e)
  | none =>
    rw [hx] at hpk hc0
    simp only [Option.isSome_none, Bool.false_eq_true, if_false] at hc0
    by_cases hf : fl = 2
    · rw [if_pos hf] at hc0
      refine (update_flag T fp r none hc2 hc3 hc5 hk O.p.m O.p.e hpk (.inr ⟨rfl, hf⟩)).mono ?_
      rintro e w' ⟨rfl, k1⟩
      rw [if_neg (by omega)]
      exact ⟨by rw [hc0], ⟨E, F, by unfold UpdE; rw [hc0, if_neg (by omega)], h.kept k1 (fun _ _ e => e), fun _ h => .inl h⟩, k1.mono (fun _ _ e => e.elim)⟩
    · rw [if_neg hf] at hc0
      refine (update_add T fp fa r m.mx (addC m E) (fun eb ed ec w' => (∃ F', Tb w' bt m iv (addE m ⟨eb, ed, ec, k, v⟩ E) F' ∧ ∀ b, F' b → F b ∨ W.heap.size ≤ b) ∧ Kept F W w') hc2 hc3 h.c4 hc5 h.row.lt hk hv O.p.m O.p.e O.a.m O.a.e O.ni hpk ?_ (by omega) (by omega) (by omega)).mono ?_
      · intro W' eb ed ec q hb hd hne hen
        refine (O.add (y := ⟨eb, ed, ec, k, v⟩) h ⟨hen, hb, hd, hne, hks, hvs, hx⟩ q).mono ?_
        rintro e w' ⟨rfl, ⟨F', h1, h2⟩, k2⟩
        exact ⟨rfl, by rw [h1.c5, O.e], h1.c4, ⟨F', h1, h2⟩, k2⟩
      · rintro e w' ⟨rfl, eb, ed, ec, hb, hd, hne, ⟨F', h1, h2⟩, k2⟩
        refine ⟨by rw [hc0], ⟨_, F', ?_, h1, h2⟩, k2.mono (fun _ _ e => .inl e)⟩
        unfold UpdE addE
        rw [hc0, hx]
        simp only [Option.isSome_none, Bool.false_eq_true, if_false]
        split
        · exact ⟨eb, ed, ec, hb, hd, rfl⟩
        · rfl
end
end Go.Proofs.Ytalahbmahpgkeaa
