/- TableOrder: the table beside blocks that it stays away from; a loop in whose rounds functions are ranged over, with marks ahead of it; a box that counts. -/
import Derived.Test.YtalahbmahpgkeaaOrdSt
import Derived.Test.YtalahbmahpgkeaaGenC
namespace Go.Proofs.Ytalahbmahpgkeaa
set_option linter.unusedVariables false
set_option linter.unusedSimpArgs false
open Go.RowKit Go.MapKept

theorem wpIn_loop_marks0 {F : Fence} {n : Nat} {P : Program} {c : Code} {Q : Exit → Act → World → Prop} {w : World} {T : Array Value} (slots : List Nat) (N : Nat) (dl0 : List Nat) (Rel : List Nat → (Nat → Value) → World → Prop)
    (hl0 : dl0.length ≤ N) (h0 : Rel dl0 (fun s => T.getD s undef) w)
    (round : ∀ dl f wr, Rel dl f wr → dl.length ≤ N → c.wpIn F n P (Exit.then (MarkEnd T slots N Rel dl) Q) ⟨upd T slots f, marks dl⟩ wr) : (Code.loop c).wpIn F n P Q ⟨T, marks dl0⟩ w := by
  refine wpIn_loop (fun a' w' => ∃ dl f, Rel dl f w' ∧ a' = ⟨upd T slots f, marks dl⟩ ∧ dl.length ≤ N) (fun a' _ => N - a'.defers.length) ⟨dl0, _, h0, by rw [upd_self], hl0⟩ ?_
  rintro a' w' ⟨dl, f, hr, rfl, hN⟩
  refine Code.wpIn_mono (fun e a2 w2 q => ?_) (round dl f w' hr hN)
  cases e with
  | normal =>
    obtain ⟨dl', h1, h2, h3, h4⟩ := q
    refine ⟨⟨dl', _, h1, h2, h4⟩, ?_⟩
    rw [h2]
    simp only [marks, List.length_map]
    omega
  | ret => exact q
  | exit id => exact q
  | goto t => exact q
  | panic ch => exact q
  | outgrown => exact q

/-- A box that counts. -/
def CountO (ib : Nat) (k : Nat) (U : Nat → Prop) (W : World) : Prop := Box W ib (.int .i64 (k : Int)) ∧ U ib
theorem CountO.kept {ib k : Nat} {U : Nat → Prop} {W W' : World} (h : CountO ib k U W) (q : Kept (fun b => ¬ U b) W W') : CountO ib k U W' := ⟨h.1.kept q (fun e => e h.2), h.2⟩

/-- A table that keeps away from X. -/
def SX (W0 : World) (m : TM) (bt : Nat) (X : Nat → Prop) (P : List Pr) (w : World) : Prop := ∃ F, Ses m bt P F w ∧ ∀ b, F b → ¬ X b ∧ W0.heap.size ≤ b ∧ b < w.heap.size
section
variable {W0 w w0 w1 w' : World} {m : TM} {bt : Nat} {X Y S : Nat → Prop} {P : List Pr} {a va : Option Addr} {l c vl vc : Nat} {k v : ByteArray} {fl : Int}
theorem SX.kept (h : SX W0 m bt X P w) (q : Kept S w w1) (hS : ∀ b, S b → X b ∨ w.heap.size ≤ b) : SX W0 m bt X P w1 := by
  obtain ⟨F, h1, h2⟩ := h
  have := q.size
  exact ⟨F, h1.kept q (fun b hb e => (hS b e).elim (h2 b hb).1 (fun e => by have := (h2 b hb).2.2; omega)), fun b hb => ⟨(h2 b hb).1, (h2 b hb).2.1, by have := (h2 b hb).2.2; omega⟩⟩
theorem SX.more (h : SX W0 m bt X P w) (hY : ∀ b, Y b → X b ∨ w.heap.size ≤ b) : SX W0 m bt Y P w := by
  obtain ⟨F, h1, h2⟩ := h
  exact ⟨F, h1, fun b hb => ⟨fun e => (hY b e).elim (h2 b hb).1 (fun e => by have := (h2 b hb).2.2; omega), (h2 b hb).2⟩⟩
theorem sx_upd (h : SX W0 m bt X P w0) (hX : ∀ b, X b → b < w0.heap.size) (hW : W0.heap.size ≤ w0.heap.size) (q : Kept (fun _ => False) w0 w1) (hk : BytesAt w1 a l k) (hv : BytesAt w1 va vl v) (hva : ∀ b o, va = some ⟨b, o, none⟩ → w0.heap.size ≤ b) :
    Calls Try.prog 20 #[.pointer (some ⟨bt, 0, none⟩), .slice a l c, .slice va vl vc, .int .i64 fl] w1 fun e w' => e = .returned (.int .i64 (codeP m k v fl P)) ∧ SX W0 m bt X (updP m k v fl P) w' ∧ Kept (fun b => ¬ X b ∧ W0.heap.size ≤ b) w0 w' := by
  obtain ⟨F, h1, h2⟩ := h
  have hq := q.size
  refine (ses_upd (c := c) (vc := vc) (fl := fl) h1 q hk hv (fun b o e => .inr (hva b o e))).mono ?_
  rintro e w' ⟨rfl, hs, kk⟩
  have hkz := kk.size
  refine ⟨rfl, ⟨_, hs, fun b hb => ?_⟩, (q.mono fun _ _ e => e.elim).trans kk (fun b _ e => ⟨(h2 b e).1, (h2 b e).2.1⟩)⟩
  rcases hb with hb | hb
  · exact ⟨(h2 b hb).1, (h2 b hb).2.1, by have := (h2 b hb).2.2; omega⟩
  · exact ⟨fun e => by have := hX b e; omega, by omega, hb.2⟩
theorem OSt.sx {ob : Nat} {os : List Nat} (h : OSt W0 m bt ob P os w) : ∃ o, Box w ob o ∧ w.ownsRow 0 5 1 o os.length (u8s os) ∧ o.ownBlock ≠ some ob ∧ (∀ b, o.ownBlock = some b → W0.heap.size ≤ b ∧ b < w.heap.size) ∧ W0.heap.size ≤ ob ∧ SX W0 m bt (fun b => b = ob ∨ o.ownBlock = some b) P w := by
  obtain ⟨F, o, h1, h2, h3, h4, h5, h6⟩ := h.ex
  exact ⟨o, h2, h3, h5, fun b hb => h6 b (.inr (.inl hb)), (h6 ob (.inr (.inr rfl))).1, F, h1, fun b hb => ⟨fun e => e.elim (h4 b hb).1 (h4 b hb).2, h6 b (.inl hb)⟩⟩
end
theorem ord_at {P : List Pr} {os : List Nat} {pre rest : List En} {e : En} (h : KeysOf P os) (hE : kvs (pre ++ e :: rest) = P) : ∃ u, os[pre.length]? = some u ∧ e.key = b1 u ∧ u < 256 ∧ pre.length < os.length := by
  have h1 : ((kvs (pre ++ e :: rest)).map (·.1))[pre.length]? = some e.key := by simp [kvs]
  rw [hE, h.e, List.getElem?_map] at h1
  obtain ⟨u, hu, hk⟩ := Option.map_eq_some_iff.1 h1
  exact ⟨u, hu, hk.symm, h.lt u (List.mem_of_getElem? hu), (List.getElem?_eq_some_iff.1 hu).1⟩
end Go.Proofs.Ytalahbmahpgkeaa
