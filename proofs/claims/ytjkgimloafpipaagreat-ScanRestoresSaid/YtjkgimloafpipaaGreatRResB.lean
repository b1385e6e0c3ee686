/- What stands under the walks, part B. -/
import Derived.Test.YtjkgimloafpipaaGreatRRes1
import Derived.Test.YtjkgimloafpipaaGreatRRes2
import Derived.Test.YtjkgimloafpipaaGreatRRes3
import Derived.Test.YtjkgimloafpipaaGreatScanD
/- The document's Restore: a table out of a text, or none. -/
namespace Go.Proofs.YtjkgimloafpipaaGreat
set_option linter.unusedVariables false
set_option linter.unusedSimpArgs false
open Go.RowKit Go.MapKept
theorem rrestore_any (m : TM) (s : ByteArray) (W : World) (hs : s.size ≤ 1000000) (hnm : m.nm.size ≤ 9223372036854775807) : Calls Tryz.prog 17 #[m.v, .string s] W (RResPost m s W) := by
  by_cases h1 : m.kd = 1
  · exact rrestore_1 m s W h1 hs hnm
  · by_cases h2 : m.kd = 2
    · exact rrestore_2 m s W h2 hs hnm
    · exact rrestore_3 m s W ⟨h1, h2⟩ hs hnm
end Go.Proofs.YtjkgimloafpipaaGreat

/- Restore, theirs and the document's: the same bytes are a table. -/
namespace Go.Proofs.YtjkgimloafpipaaGreat
set_option linter.unusedVariables false
set_option linter.unusedSimpArgs false
open Go.RowKit Go.MapKept

theorem sizes_nat {m : TM} {L : List Pr} (hr : m.right = true) (h : ∀ p ∈ L, (p.1.size : Int) = m.ks ∧ (p.2.size : Int) = m.vs) : ∀ p ∈ L, p.1.size = m.ks.toNat ∧ p.2.size = m.vs.toNat := fun p hp => by have := h p hp; omega
theorem right_pos {m : TM} (hr : m.right = true) : 0 < m.ks.toNat + m.vs.toNat := by
  have := (rightB_iff _ _ _ _ _).1 hr
  omega
theorem resP_some {m : TM} {b : ByteArray} {P : List Pr} (h : resP m b = some P) : m.right = true ∧ b.size % (m.ks.toNat + m.vs.toNat) = 0 ∧ b.size ≤ (m.ks.toNat + m.vs.toNat) * m.mx.toNat ∧ runP m (newP m) (entsB m.ks.toNat m.vs.toNat b) = some P ∧ snapB (ordP m P) = b := by
  unfold resP at h
  split at h
  · rename_i h1
    split at h
    · rename_i R hR
      split at h
      · rename_i hs
        cases h
        exact ⟨h1.1, h1.2.1, h1.2.2, hR, hs⟩
      · cases h
    · cases h
  · cases h
theorem resP_ents {m : TM} {b : ByteArray} {P : List Pr} (h : resP m b = some P) (hs : ∀ p ∈ P, (p.1.size : Int) = m.ks ∧ (p.2.size : Int) = m.vs) : entsB m.ks.toNat m.vs.toNat b = ordP m P := by
  obtain ⟨hr, -, -, -, e⟩ := resP_some h
  rw [← e]
  exact ents_snap (sizes_nat hr fun p hp => hs p ((ordP_perm m P).mem_iff.1 hp)) (right_pos hr)
theorem resP_ok {m : TM} {b : ByteArray} {P : List Pr} {bt : Nat} {F : Nat → Prop} {w : World} (h : resP m b = some P) (hS : Ses m bt P F w) : rresOK m b := by
  obtain ⟨hr, h1, h2, h3, e⟩ := resP_some h
  have he := resP_ents h hS.sizes
  have hl := entsB_len m.ks.toNat m.vs.toNat b
  rw [he, ordP_len] at hl
  refine ⟨hr, h1, ?_, fun hk => ?_, ?_⟩
  · rw [← hl]
    exact hS.len
  · rw [← hl]
    have h4 := congrArg List.length (hS.arr hk)
    simp only [List.length_map, List.length_range] at h4
    have := (rightB_iff _ _ _ _ _).1 hr
    omega
  · rw [he]
    exact res_of hS.nodup hS.arr rfl
theorem resP_no {m : TM} {b : ByteArray} (h : resP m b = none) : ¬ rresOK m b := by
  rintro ⟨hr, h1, h2, h3, h4⟩
  have h0 := right_pos hr
  obtain ⟨P, hP, hO⟩ := run_ok (E := entsB m.ks.toNat m.vs.toNat b) hr (fun p hp => by
    have h5 := ents_sizes h0 p hp
    have := (rightB_iff _ _ _ _ _).1 hr
    omega) (by rw [entsB_len]; exact h2) h4
  have hd := Nat.div_add_mod b.size (m.ks.toNat + m.vs.toNat)
  rw [h1, Nat.add_zero] at hd
  have hsz : b.size ≤ (m.ks.toNat + m.vs.toNat) * m.mx.toNat := by
    rw [← hd]
    exact Nat.mul_le_mul_left _ (by omega)
  unfold resP at h
  rw [if_pos ⟨hr, h1, hsz⟩, hP] at h
  simp only [hO, snap_ents h0 h1] at h
  simp at h
/-- What theirs makes. -/
def ResTwo (m : TM) (b : ByteArray) (W : World) (e : Ending) (w' : World) : Prop :=
  Kept (fun _ => False) W w' ∧ ((rresOK m b ∧ ∃ bt P F, e = .returned (.tuple #[.pointer (some ⟨bt, 0, none⟩), .int .i64 0]) ∧ Ses m bt P F w' ∧ snapB (ordP m P) = b) ∨ (¬ rresOK m b ∧ e = .returned (.tuple #[.pointer none, .int .i64 (if m.right = true then 2 else 1)])))
theorem restore_two (m : TM) {a : Option Addr} {T c : Nat} {b : ByteArray} {W : World} (hb : BytesAt W a T b) (hTc : T ≤ c) (hbig : T ≤ 1000000) : Calls Tryz.prog 16 #[m.v, .slice a T c] W (ResTwo m b W) := by
  refine (ses_restore m hb hTc hbig).mono ?_
  rintro e w' ⟨k, h⟩
  refine ⟨k, ?_⟩
  cases hp : resP m b with
  | none => rw [hp] at h; exact .inr ⟨resP_no hp, h⟩
  | some P =>
    rw [hp] at h
    obtain ⟨bt, he, hS⟩ := h
    exact .inl ⟨resP_ok hp hS, bt, P, _, he, hS, (resP_some hp).2.2.2.2⟩
theorem rresOK_snap {m : TM} {s : ByteArray} (h : rresOK m s) : snapB (entsB m.ks.toNat m.vs.toNat s) = s := snap_ents (right_pos h.1) h.2.1
theorem snap_small4 {m : TM} {P : List Pr} (hs : ∀ p ∈ P, (p.1.size : Int) = m.ks ∧ (p.2.size : Int) = m.vs) (hr : m.right = true) (hl : (P.length : Int) ≤ m.mx) : (snapB (ordP m P)).size ≤ 400000 := by
  have hr' := (rightB_iff _ _ _ _ _).1 hr
  have hs2 : ∀ p ∈ ordP m P, p.1.size = m.ks.toNat ∧ p.2.size = m.vs.toNat := fun p hp => by have := hs p ((ordP_perm m P).mem_iff.1 hp); omega
  rw [snapB_size hs2, ordP_len]
  have : P.length * (m.ks.toNat + m.vs.toNat) ≤ 1024 * 320 := Nat.mul_le_mul (by omega) (by omega)
  omega
/-- Both answers, in the form of two values. -/
def UD (m : TM) (b : ByteArray) (pu : Option Addr) (eu : Int) (w' : World) : Prop := (rresOK m b ∧ eu = 0 ∧ ∃ bt P F, pu = some ⟨bt, 0, none⟩ ∧ Ses m bt P F w' ∧ snapB (ordP m P) = b) ∨ (¬ rresOK m b ∧ pu = none ∧ eu = if m.right = true then 2 else 1)
def VD (m : TM) (b : ByteArray) (pv : Option Addr) (ev : Int) (w' : World) : Prop := (rresOK m b ∧ ev = 0 ∧ ∃ br F, pv = some ⟨br, 0, none⟩ ∧ RSes m br (entsB m.ks.toNat m.vs.toNat b) F w') ∨ (¬ rresOK m b ∧ pv = none ∧ ev = if m.right = true then 2 else 1)
theorem restore_u (m : TM) {a : Option Addr} {T c : Nat} {b : ByteArray} {W : World} (hb : BytesAt W a T b) (hTc : T ≤ c) (hbig : T ≤ 1000000) : Calls Tryz.prog 16 #[m.v, .slice a T c] W fun e w' => ∃ pu eu, e = .returned (.tuple #[.pointer pu, .int .i64 eu]) ∧ Kept (fun _ => False) W w' ∧ UD m b pu eu w' := by
  refine (restore_two m hb hTc hbig).mono ?_
  rintro e w' ⟨k, ⟨h1, bt, P, F, rfl, h2, h3⟩ | ⟨h1, rfl⟩⟩
  · exact ⟨_, _, rfl, k, .inl ⟨h1, rfl, bt, P, F, rfl, h2, h3⟩⟩
  · exact ⟨_, _, rfl, k, .inr ⟨h1, rfl, rfl⟩⟩
theorem restore_v (m : TM) (s : ByteArray) (W : World) (hs : s.size ≤ 1000000) (hnm : m.nm.size ≤ 9223372036854775807) : Calls Tryz.prog 17 #[m.v, .string s] W fun e w' => ∃ pv ev, e = .returned (.tuple #[.pointer pv, .int .i64 ev]) ∧ Kept (fun _ => False) W w' ∧ VD m s pv ev w' := by
  refine (rrestore_any m s W hs hnm).mono ?_
  rintro e w' ⟨k, ⟨h1, br, F, rfl, h2⟩ | ⟨h1, rfl⟩⟩
  · exact ⟨_, _, rfl, k, .inl ⟨h1, rfl, br, F, rfl, h2⟩⟩
  · exact ⟨_, _, rfl, k, .inr ⟨h1, rfl, rfl⟩⟩
theorem UD.kept {m : TM} {b : ByteArray} {pu : Option Addr} {eu : Int} {w w' : World} (h : UD m b pu eu w) (k : Kept (fun _ => False) w w') : UD m b pu eu w' := by
  rcases h with ⟨h1, h2, bt, P, F, h3, h4, h5⟩ | h
  · exact .inl ⟨h1, h2, bt, P, F, h3, h4.keep k, h5⟩
  · exact .inr h
/-- Both, side by side. -/
theorem uv_both {m : TM} {b : ByteArray} {pu pv : Option Addr} {eu ev : Int} {w : World} (hu : UD m b pu eu w) (hv : VD m b pv ev w) :
    (eu = 0 ∧ ev = 0 ∧ ∃ bu bv P F G, pu = some ⟨bu, 0, none⟩ ∧ pv = some ⟨bv, 0, none⟩ ∧ Ses m bu P F w ∧ snapB (ordP m P) = b ∧ RSes m bv (entsB m.ks.toNat m.vs.toNat b) G w ∧ snapB (entsB m.ks.toNat m.vs.toNat b) = b) ∨ (pu = none ∧ pv = none ∧ eu = ev) := by
  rcases hu with ⟨h1, h2, bu, P, F, h3, h4, h5⟩ | ⟨h1, h2, h3⟩
  · rcases hv with ⟨-, g2, bv, G, g3, g4⟩ | ⟨g1, -⟩
    · exact .inl ⟨h2, g2, bu, bv, P, F, G, h3, g3, h4, h5, g4, rresOK_snap h1⟩
    · exact absurd h1 g1
  · rcases hv with ⟨g1, -⟩ | ⟨g1, g2, g3⟩
    · exact absurd g1 h1
    · exact .inr ⟨h2, g2, by rw [h3, g3]⟩
theorem mbox_set5 {w : World} {q : Nat} {m : TM} (h : RowAt w q 5) : MBox (((((w.setCell ⟨q, 0, none⟩ (.string m.nm)).setCell ⟨q, 1, none⟩ (.int .i64 m.kd)).setCell ⟨q, 2, none⟩ (.int .i64 m.ks)).setCell ⟨q, 3, none⟩ (.int .i64 m.vs)).setCell ⟨q, 4, none⟩ (.int .i64 m.mx)) q m := by
  have h1 := h.setCell ⟨q, 0, none⟩ (.string m.nm)
  have h2 := h1.setCell ⟨q, 1, none⟩ (.int .i64 m.kd)
  have h3 := h2.setCell ⟨q, 2, none⟩ (.int .i64 m.ks)
  have h4 := h3.setCell ⟨q, 3, none⟩ (.int .i64 m.vs)
  refine ⟨h4.setCell _ _, ?_, ?_, ?_, ?_, cell_set_same h4 (by omega) _⟩
  · exact (cell_set_other _ (by omega)).trans ((cell_set_other _ (by omega)).trans ((cell_set_other _ (by omega)).trans ((cell_set_other _ (by omega)).trans (cell_set_same h (by omega) _))))
  · exact (cell_set_other _ (by omega)).trans ((cell_set_other _ (by omega)).trans ((cell_set_other _ (by omega)).trans (cell_set_same h1 (by omega) _)))
  · exact (cell_set_other _ (by omega)).trans ((cell_set_other _ (by omega)).trans (cell_set_same h2 (by omega) _))
  · exact (cell_set_other _ (by omega)).trans (cell_set_same h3 (by omega) _)
theorem kept_set5 {W w : World} (h : Kept (fun _ => False) W w) {q : Nat} {v0 v1 v2 v3 v4 : Value} (hq : W.heap.size ≤ q) : Kept (fun _ => False) W (((((w.setCell ⟨q, 0, none⟩ v0).setCell ⟨q, 1, none⟩ v1).setCell ⟨q, 2, none⟩ v2).setCell ⟨q, 3, none⟩ v3).setCell ⟨q, 4, none⟩ v4) := by
  have st : ∀ {w : World} (h : Kept (fun _ => False) W w) (o : Nat) (v : Value), Kept (fun _ => False) W (w.setCell ⟨q, o, none⟩ v) := fun h o v => h.trans (Kept.one_set _ ⟨q, o, none⟩ v) (fun b hb e => by have e : b = q := e; omega)
  exact st (st (st (st (st h 0 v0) 1 v1) 2 v2) 3 v3) 4 v4
/-- A map's box, cell by cell, for all that come later. -/
theorem mbox_cells {w : World} {q : Nat} {nm : ByteArray} {kd ks vs mx : Int} (h : MBox w q ⟨nm, kd, ks, vs, mx⟩) : ∀ w', Kept (fun _ => False) w w' → w'.cell? ⟨q, 0, none⟩ = some (.string nm) ∧ w'.cell? ⟨q, 1, none⟩ = some (.int .i64 kd) ∧ w'.cell? ⟨q, 2, none⟩ = some (.int .i64 ks) ∧ w'.cell? ⟨q, 3, none⟩ = some (.int .i64 vs) ∧ w'.cell? ⟨q, 4, none⟩ = some (.int .i64 mx) := fun w' k => by
  have h' := h.kept k (fun e => e)
  exact ⟨h'.c0, h'.c1, h'.c2, h'.c3, h'.c4⟩
end Go.Proofs.YtjkgimloafpipaaGreat
