/- TableOrder: the table, and the row of numbers beside it. -/
import Derived.Test.YtalahbmahpgkeaaOrdLaw
import Derived.Test.YtalahbmahpgkeaaGenC
namespace Go.Proofs.Ytalahbmahpgkeaa
set_option linter.unusedVariables false
set_option linter.unusedSimpArgs false
open Go.RowKit Go.MapKept

theorem u8E : Elem Try.prog 34 5 (.int .u8 0) 1 1 := ⟨Try.underlying34, by kernel_rfl, rfl, by omega⟩
def u8s (os : List Nat) : List Value := os.map fun u : Nat => .int .u8 (u : Int)
theorem u8s_len (os : List Nat) : (u8s os).length = os.length := by simp [u8s]
theorem two_bytes (w : World) (t : TypeId) (u v : Nat) (hu : u < 256) (hv : v < 256) : Kept (fun _ => False) w ((w.alloc (.cells #[.int .u8 (u : Int)] t)).alloc (.cells #[.int .u8 (v : Int)] t)) ∧
    BytesAt ((w.alloc (.cells #[.int .u8 (u : Int)] t)).alloc (.cells #[.int .u8 (v : Int)] t)) (some ⟨w.heap.size, 0, none⟩) 1 (b1 u) ∧ BytesAt ((w.alloc (.cells #[.int .u8 (u : Int)] t)).alloc (.cells #[.int .u8 (v : Int)] t)) (some ⟨w.heap.size + 1, 0, none⟩) 1 (b1 v) :=
  ⟨((Kept.refl _ w).alloc _).alloc _, (bytes_one w t u hu _ rfl).kept (Kept.one_alloc _ _) (fun _ _ _ e => e), bytes_one _ t v hv _ (by simp)⟩
/-- A table, and a row of one's own in a box. -/
structure OSt (W0 : World) (m : TM) (bt ob : Nat) (P : List Pr) (os : List Nat) (w : World) : Prop where
  ex : ∃ F o, Ses m bt P F w ∧ Box w ob o ∧ w.ownsRow 0 5 1 o os.length (u8s os) ∧ (∀ b, F b → b ≠ ob ∧ o.ownBlock ≠ some b) ∧ o.ownBlock ≠ some ob ∧ (∀ b, F b ∨ o.ownBlock = some b ∨ b = ob → W0.heap.size ≤ b ∧ b < w.heap.size)
  back : Kept (fun _ => False) W0 w
section
variable {W0 w w0 w1 w' : World} {m : TM} {bt ob : Nat} {P : List Pr} {os : List Nat} {a va : Option Addr} {l c vl vc : Nat} {k v : ByteArray} {fl : Int}
theorem OSt.above (h : OSt W0 m bt ob P os w) (q : Kept (fun b => w.heap.size ≤ b) w w1) : OSt W0 m bt ob P os w1 := by
  obtain ⟨F, o, h1, h2, h3, h4, h5, h6⟩ := h.ex
  have hz := q.size
  have hb := h.back.size
  exact ⟨⟨F, o, h1.kept q (fun b hb e => by have := (h6 b (.inl hb)).2; omega), h2.kept q (fun e => by have := (h6 ob (.inr (.inr rfl))).2; omega), ownsRow_kept h3 q (fun b hb e => by have := (h6 b (.inr (.inl hb))).2; omega), h4, h5, fun b hb => by have := h6 b hb; omega⟩, h.back.trans q (fun b hb e => by omega)⟩
theorem OSt.keep (h : OSt W0 m bt ob P os w) (q : Kept (fun _ => False) w w1) : OSt W0 m bt ob P os w1 := h.above (q.mono fun _ _ e => e.elim)
theorem ost_start (hs : Ses m bt P (fun b => W0.heap.size ≤ b ∧ b < w.heap.size) w) (k : Kept (fun _ => False) W0 w) (t : TypeId) : OSt W0 m bt w.heap.size P [] (w.alloc (.cells #[.slice none 0 0] t)) := by
  have ka := Kept.one_alloc w (.cells #[.slice none 0 0] t)
  have hz := k.size
  refine ⟨⟨_, _, hs.keep ka, Box.new w _ t, ⟨by simp [u8s], .inl ⟨rfl, rfl⟩⟩, fun b hb => ⟨by omega, by simp [Value.ownBlock]⟩, by simp [Value.ownBlock], fun b hb => ?_⟩, k.trans ka (fun _ _ e => e)⟩
  rw [World.size_alloc]
  rcases hb with hb | hb | hb
  · omega
  · simp [Value.ownBlock] at hb
  · omega
/-- A call that changes the table alone. -/
theorem OSt.call {P' : List Pr} {F : Nat → Prop} {o : Value} (h : OSt W0 m bt ob P os w0) (h2 : Box w0 ob o) (h3 : w0.ownsRow 0 5 1 o os.length (u8s os)) (h4 : ∀ b, F b → b ≠ ob ∧ o.ownBlock ≠ some b) (h5 : o.ownBlock ≠ some ob) (h6 : ∀ b, F b ∨ o.ownBlock = some b ∨ b = ob → W0.heap.size ≤ b ∧ b < w0.heap.size)
    (q : Kept (fun _ => False) w0 w1) (k1 : Kept F w1 w') (hs : Ses m bt P' (fun b => F b ∨ (w0.heap.size ≤ b ∧ b < w'.heap.size)) w') : OSt W0 m bt ob P' os w' := by
  have hz := q.size
  have hk := k1.size
  have hb := h.back.size
  have kk : Kept F w0 w' := (q.mono fun _ _ e => e.elim).trans k1 (fun _ _ e => e)
  refine ⟨⟨_, o, hs, h2.kept kk (fun e => (h4 ob e).1 rfl), ownsRow_kept h3 kk (fun b hb e => (h4 b e).2 hb), fun b hb => ?_, h5, fun b hb => ?_⟩, h.back.trans kk (fun b hb e => by have := (h6 b (.inl e)).1; omega)⟩
  · rcases hb with hb | hb
    · exact h4 b hb
    · exact ⟨fun e => by have := (h6 ob (.inr (.inr rfl))).2; omega, fun e => by have := (h6 b (.inr (.inl e))).2; omega⟩
  · rcases hb with (hb | hb) | hb
    · have := h6 b (.inl hb); omega
    · omega
    · have := h6 b (.inr hb); omega
theorem ost_upd (h : OSt W0 m bt ob P os w0) (q : Kept (fun _ => False) w0 w1) (hk : BytesAt w1 a l k) (hv : BytesAt w1 va vl v) (hva : ∀ b o, va = some ⟨b, o, none⟩ → w0.heap.size ≤ b) :
    Calls Try.prog 20 #[.pointer (some ⟨bt, 0, none⟩), .slice a l c, .slice va vl vc, .int .i64 fl] w1 fun e w' => e = .returned (.int .i64 (codeP m k v fl P)) ∧ OSt W0 m bt ob (updP m k v fl P) os w' := by
  obtain ⟨F, o, h1, h2, h3, h4, h5, h6⟩ := h.ex
  refine (ses_upd (c := c) (vc := vc) (fl := fl) h1 q hk hv (fun b o e => .inr (hva b o e))).mono ?_
  rintro e w' ⟨rfl, hs, kk⟩
  exact ⟨rfl, h.call h2 h3 h4 h5 h6 q kk hs⟩
theorem ost_look (h : OSt W0 m bt ob P os w0) (q : Kept (fun _ => False) w0 w1) (hk : BytesAt w1 a l k) :
    Calls Try.prog 22 #[.pointer (some ⟨bt, 0, none⟩), .slice a l c] w1 fun e w' => ∃ x, e = .returned (.tuple #[x, .bool (lookP k P).isSome]) ∧ OSt W0 m bt ob (useP m k P) os w' := by
  obtain ⟨F, o, h1, h2, h3, h4, h5, h6⟩ := h.ex
  refine (ses_look (c := c) h1 q hk).mono ?_
  rintro e w' ⟨x, rfl, hs, -, kk⟩
  exact ⟨x, rfl, h.call h2 h3 h4 h5 h6 q kk (hs.mono fun b hb => .inl hb)⟩
theorem ost_len (h : OSt W0 m bt ob P os w) : Calls Try.prog 17 #[.pointer (some ⟨bt, 0, none⟩)] w fun e w' => e = .returned (.int .i64 (P.length : Nat)) ∧ Kept (fun _ => False) w w' := by
  obtain ⟨F, o, h1, -⟩ := h.ex
  exact ses_len h1
/-- The row in the box grew, or was taken from elsewhere. -/
theorem OSt.row {S : Nat → Prop} {os' : List Nat} {o r : Value} (h : OSt W0 m bt ob P os w0) (hbox : Box w0 ob o) (k : Kept S w0 w1) (hS : ∀ b, S b → o.ownBlock = some b ∨ w0.heap.size ≤ b) (hr : w1.ownsRow 0 5 1 r os'.length (u8s os')) (hrb : ∀ b, r.ownBlock = some b → o.ownBlock = some b ∨ w0.heap.size ≤ b) :
    OSt W0 m bt ob P os' (w1.setCell ⟨ob, 0, none⟩ r) := by
  obtain ⟨F, o', h1, h2, h3, h4, h5, h6⟩ := h.ex
  have eo : o' = o := by
    have := h2.cell
    rw [hbox.cell] at this
    exact ((Option.some.injEq _ _).mp this).symm
  subst eo
  have hz := k.size
  have hb := h.back.size
  have hob := h6 ob (.inr (.inr rfl))
  have hS2 : ∀ b, S b → b ≠ ob ∧ ¬ F b ∧ W0.heap.size ≤ b := fun b hb => by
    rcases hS b hb with e | e
    · exact ⟨fun h => h5 (by rw [← h]; exact e), fun hf => (h4 b hf).2 e, (h6 b (.inr (.inl e))).1⟩
    · exact ⟨by omega, fun hf => by have := (h6 b (.inl hf)).2; omega, by omega⟩
  have ks := Kept.one_set w1 ⟨ob, 0, none⟩ r
  have hr2 : ∀ b, r.ownBlock = some b → b ≠ ob ∧ ¬ F b ∧ W0.heap.size ≤ b := fun b hb => by
    rcases hrb b hb with e | e
    · exact ⟨fun h => h5 (by rw [← h]; exact e), fun hf => (h4 b hf).2 e, (h6 b (.inr (.inl e))).1⟩
    · exact ⟨by omega, fun hf => by have := (h6 b (.inl hf)).2; omega, by omega⟩
  refine ⟨⟨F, r, (h1.kept k (fun b hb e => (hS2 b e).2.1 hb)).kept ks (fun b hb e => (h4 b hb).1 e), (h2.kept k (fun e => (hS2 ob e).1 rfl)).set r, ownsRow_kept hr ks (fun b hb e => (hr2 b hb).1 e), fun b hb => ⟨(h4 b hb).1, fun e => (hr2 b e).2.1 hb⟩, fun e => (hr2 ob e).1 rfl, fun b hb => ?_⟩,
    (h.back.trans k (fun b hb e => by have := (hS2 b e).2.2; omega)).trans ks (fun b hb e => by have e : b = ob := e; omega)⟩
  have hsz : (w1.setCell ⟨ob, 0, none⟩ r).heap.size = w1.heap.size := by simp [World.setCell]
  rw [hsz]
  rcases hb with hb | hb | hb
  · have := h6 b (.inl hb); omega
  · exact ⟨(hr2 b hb).2.2, (hr.lt b hb).2⟩
  · omega
end
end Go.Proofs.Ytalahbmahpgkeaa
