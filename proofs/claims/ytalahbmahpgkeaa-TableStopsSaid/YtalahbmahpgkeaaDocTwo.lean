/- A table, and the document's beside it. -/
import Derived.Test.YtalahbmahpgkeaaRefSes
import Derived.Test.YtalahbmahpgkeaaTblE
namespace Go.Proofs.Ytalahbmahpgkeaa
set_option linter.unusedVariables false
set_option linter.unusedSimpArgs false
open Go.RowKit Go.MapKept

/-- A new table is in order. -/
theorem newP_ord (m : TM) : ordP m (newP m) = newP m := by
  unfold ordP newP
  split
  · rename_i h
    rw [if_neg (by omega)]
    rfl
  · rfl
/-- A table bt (P) and the document's br (Q): apart from each other, and from the blocks X. -/
structure D2 (W0 : World) (m : TM) (bt br : Nat) (X : Nat → Prop) (P Q : List Pr) (w : World) : Prop where
  ex : ∃ Ft Fr, Ses m bt P Ft w ∧ RSes m br Q Fr w ∧ (∀ b, Ft b → ¬ Fr b) ∧ ∀ b, Ft b ∨ Fr b → W0.heap.size ≤ b ∧ b < w.heap.size ∧ ¬ X b
  back : Kept (fun _ => False) W0 w
section
variable {W0 w w0 w1 : World} {m : TM} {bt br : Nat} {X Y S : Nat → Prop} {P Q : List Pr} {a va : Option Addr} {l c vl vc : Nat} {k v : ByteArray} {fl : Int}
theorem D2.keepX (h : D2 W0 m bt br X P Q w) (q : Kept S w w1) (hS : ∀ b, S b → (X b ∧ W0.heap.size ≤ b) ∨ w.heap.size ≤ b) : D2 W0 m bt br X P Q w1 := by
  obtain ⟨Ft, Fr, h1, h2, h3, h4⟩ := h.ex
  have hz := q.size
  have hb := h.back.size
  have hn : ∀ b, Ft b ∨ Fr b → ¬ S b := fun b hb e => by
    have := h4 b hb
    rcases hS b e with e | e
    · exact this.2.2 e.1
    · omega
  exact ⟨⟨Ft, Fr, h1.kept q (fun b hb => hn b (.inl hb)), h2.kept q (fun b hb => hn b (.inr hb)), h3, fun b hb => by have := h4 b hb; exact ⟨this.1, by omega, this.2.2⟩⟩, h.back.trans q (fun b hb e => by rcases hS b e with e | e <;> omega)⟩
theorem D2.keep (h : D2 W0 m bt br X P Q w) (q : Kept (fun _ => False) w w1) : D2 W0 m bt br X P Q w1 := h.keepX q (fun _ e => e.elim)
theorem D2.more (h : D2 W0 m bt br X P Q w) (hY : ∀ b, Y b → X b ∨ w.heap.size ≤ b) : D2 W0 m bt br Y P Q w := by
  obtain ⟨Ft, Fr, h1, h2, h3, h4⟩ := h.ex
  refine ⟨⟨Ft, Fr, h1, h2, h3, fun b hb => ?_⟩, h.back⟩
  have := h4 b hb
  refine ⟨this.1, this.2.1, fun e => ?_⟩
  rcases hY b e with e | e
  · exact this.2.2 e
  · omega
theorem D2.low {W : World} (h : D2 W0 m bt br X P Q w) (q : Kept (fun _ => False) W W0) : D2 W m bt br X P Q w := by
  obtain ⟨Ft, Fr, h1, h2, h3, h4⟩ := h.ex
  have := q.size
  exact ⟨⟨Ft, Fr, h1, h2, h3, fun b hb => by have := h4 b hb; exact ⟨by omega, this.2⟩⟩, q.trans h.back (fun _ _ e => e)⟩
theorem D2.nodup (h : D2 W0 m bt br X P Q w) : (P.map (·.1)).Nodup := by obtain ⟨Ft, Fr, h1, -⟩ := h.ex; exact h1.nodup
theorem D2.right (h : D2 W0 m bt br X P Q w) : m.right = true := by obtain ⟨Ft, Fr, h1, -⟩ := h.ex; exact h1.right
theorem D2.len (h : D2 W0 m bt br X P Q w) : (P.length : Int) ≤ m.mx := by obtain ⟨Ft, Fr, h1, -⟩ := h.ex; exact h1.len
theorem d2_start {W0 w1 w2 : World} (hs : Ses m bt P (fun b => W0.heap.size ≤ b ∧ b < w1.heap.size) w1) (k1 : Kept (fun _ => False) W0 w1) (hr : RSes m br Q (fun b => w1.heap.size ≤ b ∧ b < w2.heap.size) w2) (k2 : Kept (fun _ => False) w1 w2) : D2 W0 m bt br (fun _ => False) P Q w2 := by
  have h1 := k1.size
  have h2 := k2.size
  exact ⟨⟨_, _, hs.keep k2, hr, fun b hb e => by omega, fun b hb => ⟨by omega, by omega, fun e => e⟩⟩, k1.trans k2 (fun _ _ e => e)⟩
theorem d2_upd1 (h : D2 W0 m bt br X P Q w0) (hX : ∀ b, X b → b < w0.heap.size) (q : Kept (fun _ => False) w0 w1) (hk : BytesAt w1 a l k) (hv : BytesAt w1 va vl v) (hva : ∀ b o, va = some ⟨b, o, none⟩ → w0.heap.size ≤ b ∨ X b) :
    Calls Try.prog 20 #[.pointer (some ⟨bt, 0, none⟩), .slice a l c, .slice va vl vc, .int .i64 fl] w1 fun e w' => e = .returned (.int .i64 (codeP m k v fl P)) ∧ D2 W0 m bt br X (updP m k v fl P) Q w' ∧ Kept (fun b => W0.heap.size ≤ b ∧ b < w0.heap.size ∧ ¬ X b) w0 w' := by
  obtain ⟨Ft, Fr, h1, h2, h3, h4⟩ := h.ex
  have hz := q.size
  have hb := h.back.size
  refine (ses_upd (c := c) (vc := vc) (fl := fl) h1 q hk hv (fun b o e => ?_)).mono ?_
  · rcases hva b o e with e | e
    · exact .inr e
    · exact .inl (fun hf => (h4 b (.inl hf)).2.2 e)
  rintro e w' ⟨rfl, hs, kk⟩
  have hkz := kk.size
  have kk0 : Kept Ft w0 w' := (kF q).trans kk (fun _ _ e => e)
  refine ⟨rfl, ⟨⟨_, Fr, hs, h2.kept kk0 (fun b hb e => h3 b e hb), fun b hb e => ?_, fun b hb => ?_⟩, h.back.trans kk0 (fun b hb e => by have := (h4 b (.inl e)).1; omega)⟩, kk0.mono (fun b _ e => h4 b (.inl e))⟩
  · rcases hb with hb | hb
    · exact h3 b hb e
    · have := (h4 b (.inr e)).2.1; omega
  · rcases hb with (hb | hb) | hb
    · have := h4 b (.inl hb); exact ⟨this.1, by omega, this.2.2⟩
    · exact ⟨by omega, hb.2, fun e => by have := hX b e; omega⟩
    · have := h4 b (.inr hb); exact ⟨this.1, by omega, this.2.2⟩
theorem d2_upd2 (h : D2 W0 m bt br X P Q w0) (hX : ∀ b, X b → b < w0.heap.size) (q : Kept (fun _ => False) w0 w1) (hks : k.size ≤ 9223372036854775807) (hvs : v.size ≤ 9223372036854775807) :
    Calls Try.prog 27 #[.pointer (some ⟨br, 0, none⟩), .string k, .string v, .int .i64 fl] w1 fun e w' => e = .returned (.int .i64 (codeP m k v fl Q)) ∧ D2 W0 m bt br X P (rupdP m k v fl Q) w' ∧ Kept (fun b => W0.heap.size ≤ b ∧ b < w0.heap.size ∧ ¬ X b) w0 w' := by
  obtain ⟨Ft, Fr, h1, h2, h3, h4⟩ := h.ex
  have hz := q.size
  have hb := h.back.size
  refine (rses_upd (fl := fl) (h2.keep q) hks hvs).mono ?_
  rintro e w' ⟨rfl, hs, kk⟩
  have hkz := kk.size
  have kk0 : Kept Fr w0 w' := (kF q).trans kk (fun _ _ e => e)
  refine ⟨rfl, ⟨⟨Ft, _, h1.kept kk0 (fun b hb e => h3 b hb e), hs, fun b hb e => ?_, fun b hb => ?_⟩, h.back.trans kk0 (fun b hb e => by have := (h4 b (.inr e)).1; omega)⟩, kk0.mono (fun b _ e => h4 b (.inr e))⟩
  · rcases e with e | e
    · exact h3 b hb e
    · have := (h4 b (.inl hb)).2.1; omega
  · rcases hb with hb | hb | hb
    · have := h4 b (.inl hb); exact ⟨this.1, by omega, this.2.2⟩
    · have := h4 b (.inr hb); exact ⟨this.1, by omega, this.2.2⟩
    · exact ⟨by omega, hb.2, fun e => by have := hX b e; omega⟩
theorem d2_len2 (h : D2 W0 m bt br X P Q w) : Calls Try.prog 28 #[.pointer (some ⟨br, 0, none⟩)] w fun e w' => e = .returned (.int .i64 (Q.length : Nat)) ∧ w = w' := by
  obtain ⟨Ft, Fr, h1, h2, -⟩ := h.ex
  exact rses_len h2
theorem d2_len1 (h : D2 W0 m bt br X P Q w) : Calls Try.prog 17 #[.pointer (some ⟨bt, 0, none⟩)] w fun e w' => e = .returned (.int .i64 (P.length : Nat)) ∧ Kept (fun _ => False) w w' := by
  obtain ⟨Ft, Fr, h1, h2, -⟩ := h.ex
  exact ses_len h1
end
end Go.Proofs.Ytalahbmahpgkeaa
