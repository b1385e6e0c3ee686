/- Three tables: one, the document's, and one that was restored; what is restored has the same pairs in order. -/
import Derived.Test.YtjkgimloafpipaaGreatScanD
import Derived.Test.YtjkgimloafpipaaGreatRefScan
namespace Go.Proofs.YtjkgimloafpipaaGreat
set_option linter.unusedVariables false
set_option linter.unusedSimpArgs false
open Go.RowKit Go.MapKept

/-- A table's bytes are a table, with the same pairs in order. -/
theorem resP_back {m : TM} {P : List Pr} (hr : m.right = true) (hn : (P.map (·.1)).Nodup) (hs : ∀ p ∈ P, (p.1.size : Int) = m.ks ∧ (p.2.size : Int) = m.vs) (hl : (P.length : Int) ≤ m.mx) (ha : m.kd = 1 → P.map (·.1) = (List.range m.mx.toNat).map numK) :
    ∃ P', resP m (snapB (ordP m P)) = some P' ∧ ordP m P' = ordP m P := by
  have hr' := (rightB_iff _ _ _ _ _).1 hr
  have hs1 : ∀ p ∈ ordP m P, (p.1.size : Int) = m.ks ∧ (p.2.size : Int) = m.vs := fun p hp => hs p ((ordP_perm m P).mem_iff.1 hp)
  have hs2 : ∀ p ∈ ordP m P, p.1.size = m.ks.toNat ∧ p.2.size = m.vs.toNat := fun p hp => by have := hs1 p hp; omega
  have hz := snapB_size hs2
  obtain ⟨P', h1, h2⟩ := run_ok hr hs1 (by rw [ordP_len]; exact hl) (res_of hn ha rfl)
  have h0 : 0 < m.ks.toNat + m.vs.toNat := by omega
  refine ⟨P', ?_, h2⟩
  unfold resP
  rw [if_pos, ents_snap hs2 h0, h1]
  · show (if snapB (ordP m P') = snapB (ordP m P) then some P' else none) = some P'
    rw [h2, if_pos rfl]
  · refine ⟨hr, by rw [hz, Nat.mul_mod_left], ?_⟩
    rw [hz, ordP_len, Nat.mul_comm]
    exact Nat.mul_le_mul_left _ (by omega)
theorem snap_small {m : TM} {P : List Pr} (hs : ∀ p ∈ P, (p.1.size : Int) = m.ks ∧ (p.2.size : Int) = m.vs) (hr : m.right = true) (hl : (P.length : Int) ≤ m.mx) : (snapB (ordP m P)).size ≤ 1000000 := by
  have hr' := (rightB_iff _ _ _ _ _).1 hr
  have hs2 : ∀ p ∈ ordP m P, p.1.size = m.ks.toNat ∧ p.2.size = m.vs.toNat := fun p hp => by have := hs p ((ordP_perm m P).mem_iff.1 hp); omega
  rw [snapB_size hs2, ordP_len]
  have : P.length * (m.ks.toNat + m.vs.toNat) ≤ 1024 * 320 := Nat.mul_le_mul (by omega) (by omega)
  omega

/-- Tables bt (P), the document's br (Q) and bu (P'), apart from each other and from the blocks Y. -/
def T3 (W0 : World) (m : TM) (bt br bu : Nat) (Y : Nat → Prop) (P P' Q : List Pr) (w : World) : Prop := ∃ X, (∀ b, X b → W0.heap.size ≤ b ∧ b < w.heap.size ∧ ¬ Y b) ∧ (∀ b, Y b → b < w.heap.size) ∧ D2 W0 m bt br (fun b => X b ∨ Y b) P Q w ∧ Ses m bu P' X w
section
variable {W0 w w0 w1 w' : World} {m : TM} {bt br bu : Nat} {Y Y' : Nat → Prop} {P P' Q : List Pr} {a va : Option Addr} {l c vl vc : Nat} {k v : ByteArray} {fl : Int}
theorem T3.keep (h : T3 W0 m bt br bu Y P P' Q w) (q : Kept (fun _ => False) w w1) : T3 W0 m bt br bu Y P P' Q w1 := by
  obtain ⟨X, h1, h0, h2, h3⟩ := h
  exact ⟨X, fun b hb => ⟨(h1 b hb).1, Nat.lt_of_lt_of_le (h1 b hb).2.1 q.size, (h1 b hb).2.2⟩, fun b hb => Nat.lt_of_lt_of_le (h0 b hb) q.size, h2.keep q, h3.keep q⟩
theorem T3.back (h : T3 W0 m bt br bu Y P P' Q w) : Kept (fun _ => False) W0 w := by obtain ⟨X, -, -, h2, -⟩ := h; exact h2.back
theorem T3.grow (h : T3 W0 m bt br bu Y P P' Q w) (q : Kept (fun _ => False) w w1) (h1' : ∀ b, Y' b → Y b ∨ w.heap.size ≤ b) (h2' : ∀ b, Y' b → b < w1.heap.size) : T3 W0 m bt br bu Y' P P' Q w1 := by
  obtain ⟨X, h1, h0, h2, h3⟩ := h
  refine ⟨X, fun b hb => ⟨(h1 b hb).1, Nat.lt_of_lt_of_le (h1 b hb).2.1 q.size, fun e => ?_⟩, h2', ?_, h3.keep q⟩
  · rcases h1' b e with e | e
    · exact (h1 b hb).2.2 e
    · have := (h1 b hb).2.1
      omega
  · refine (h2.more (Y := fun b => X b ∨ Y' b) (fun b hb => ?_)).keep q
    rcases hb with hb | hb
    · exact .inl (.inl hb)
    · exact (h1' b hb).elim (fun e => .inl (.inr e)) .inr
theorem t3_start {w2 : World} (h : D2 W0 m bt br (fun _ => False) P Q w) (k : Kept (fun _ => False) w w1) (hs : Ses m bu P' (fun b => w1.heap.size ≤ b ∧ b < w2.heap.size) w2) (k2 : Kept (fun _ => False) w1 w2) : T3 W0 m bt br bu (fun _ => False) P P' Q w2 := by
  have hb := h.back.size
  have hz := k.size
  refine ⟨_, fun b hb' => ⟨by omega, hb'.2, fun e => e⟩, fun _ e => e.elim, ?_, hs⟩
  exact ((h.keep k).more (Y := fun b => (w1.heap.size ≤ b ∧ b < w2.heap.size) ∨ False) (fun b hb => .inr (hb.elim (fun e => e.1) (fun e => e.elim)))).keep k2
theorem T3.ses (h : T3 W0 m bt br bu Y P P' Q w) : (∃ F, Ses m bt P F w) ∧ (∃ F, RSes m br Q F w) ∧ ∃ F, Ses m bu P' F w := by
  obtain ⟨X, -, -, h2, h3⟩ := h
  obtain ⟨Ft, Fr, h4, h5, -⟩ := h2.ex
  exact ⟨⟨_, h4⟩, ⟨_, h5⟩, ⟨_, h3⟩⟩
theorem t3_upd1 (h : T3 W0 m bt br bu Y P P' Q w0) (q : Kept (fun _ => False) w0 w1) (hk : BytesAt w1 a l k) (hv : BytesAt w1 va vl v) (hva : ∀ b o, va = some ⟨b, o, none⟩ → w0.heap.size ≤ b) :
    Calls Tryz.prog 23 #[.pointer (some ⟨bt, 0, none⟩), .slice a l c, .slice va vl vc, .int .i64 fl] w1 fun e w' => e = .returned (.int .i64 (codeP m k v fl P)) ∧ T3 W0 m bt br bu Y (updP m k v fl P) P' Q w' ∧ Kept (fun b => ¬ Y b) w0 w' := by
  obtain ⟨X, h1, h0, h2, h3⟩ := h
  refine (d2_upd1 (c := c) (vc := vc) (fl := fl) h2 (fun b hb => hb.elim (fun e => (h1 b e).2.1) (h0 b)) q hk hv (fun b o e => .inl (hva b o e))).mono ?_
  rintro e w' ⟨rfl, hd, kk⟩
  exact ⟨rfl, ⟨X, fun b hb => ⟨(h1 b hb).1, Nat.lt_of_lt_of_le (h1 b hb).2.1 kk.size, (h1 b hb).2.2⟩, fun b hb => Nat.lt_of_lt_of_le (h0 b hb) kk.size, hd, h3.kept kk (fun b hb e => e.2.2 (.inl hb))⟩, kk.mono fun b _ e h => e.2.2 (.inr h)⟩
theorem t3_updu (h : T3 W0 m bt br bu Y P P' Q w0) (q : Kept (fun _ => False) w0 w1) (hk : BytesAt w1 a l k) (hv : BytesAt w1 va vl v) (hva : ∀ b o, va = some ⟨b, o, none⟩ → w0.heap.size ≤ b) :
    Calls Tryz.prog 23 #[.pointer (some ⟨bu, 0, none⟩), .slice a l c, .slice va vl vc, .int .i64 fl] w1 fun e w' => e = .returned (.int .i64 (codeP m k v fl P')) ∧ T3 W0 m bt br bu Y P (updP m k v fl P') Q w' ∧ Kept (fun b => ¬ Y b) w0 w' := by
  obtain ⟨X, h1, h0, h2, h3⟩ := h
  have hb := h2.back.size
  refine (ses_upd (c := c) (vc := vc) (fl := fl) h3 q hk hv (fun b o e => .inr (hva b o e))).mono ?_
  rintro e w' ⟨rfl, hs, kk⟩
  have k0 : Kept X w0 w' := (q.mono fun _ _ e => e.elim).trans kk (fun _ _ e => e)
  have hk0 := k0.size
  refine ⟨rfl, ⟨_, fun b hb' => ?_, fun b hb' => Nat.lt_of_lt_of_le (h0 b hb') hk0, ?_, hs⟩, k0.mono fun b _ e => (h1 b e).2.2⟩
  · rcases hb' with hb' | hb'
    · exact ⟨(h1 b hb').1, Nat.lt_of_lt_of_le (h1 b hb').2.1 hk0, (h1 b hb').2.2⟩
    · exact ⟨by omega, hb'.2, fun e => by have := h0 b e; omega⟩
  · exact (h2.more (Y := fun b => (X b ∨ (w0.heap.size ≤ b ∧ b < w'.heap.size)) ∨ Y b) (fun b hb => by
      rcases hb with (hb | hb) | hb
      · exact .inl (.inl hb)
      · exact .inr hb.1
      · exact .inl (.inr hb))).keepX k0 (fun b hb => .inl ⟨.inl (.inl hb), (h1 b hb).1⟩)
theorem t3_upd2 (h : T3 W0 m bt br bu Y P P' Q w0) (q : Kept (fun _ => False) w0 w1) (hks : k.size ≤ 9223372036854775807) (hvs : v.size ≤ 9223372036854775807) :
    Calls Tryz.prog 24 #[.pointer (some ⟨br, 0, none⟩), .string k, .string v, .int .i64 fl] w1 fun e w' => e = .returned (.int .i64 (codeP m k v fl Q)) ∧ T3 W0 m bt br bu Y P P' (rupdP m k v fl Q) w' ∧ Kept (fun b => ¬ Y b) w0 w' := by
  obtain ⟨X, h1, h0, h2, h3⟩ := h
  refine (d2_upd2 (fl := fl) h2 (fun b hb => hb.elim (fun e => (h1 b e).2.1) (h0 b)) q hks hvs).mono ?_
  rintro e w' ⟨rfl, hd, kk⟩
  exact ⟨rfl, ⟨X, fun b hb => ⟨(h1 b hb).1, Nat.lt_of_lt_of_le (h1 b hb).2.1 kk.size, (h1 b hb).2.2⟩, fun b hb => Nat.lt_of_lt_of_le (h0 b hb) kk.size, hd, h3.kept kk (fun b hb e => e.2.2 (.inl hb))⟩, kk.mono fun b _ e h => e.2.2 (.inr h)⟩
end
end Go.Proofs.YtjkgimloafpipaaGreat
