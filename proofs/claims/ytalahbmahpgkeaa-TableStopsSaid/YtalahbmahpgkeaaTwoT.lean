/- Two tables side by side, a hash and a list: the same keys and values, in whatever order. -/
import Derived.Test.YtalahbmahpgkeaaTblF
import Derived.Test.YtalahbmahpgkeaaOrd
namespace Go.Proofs.Ytalahbmahpgkeaa
set_option linter.unusedVariables false
set_option linter.unusedSimpArgs false
open Go.RowKit Go.MapKept

/-! ### The plain law -/
section
variable {P Q : List Pr} {m n : TM} {k v : ByteArray} {fl : Int}
theorem lookP_some_iff (hn : (P.map (·.1)).Nodup) {d : ByteArray} : lookP k P = some d ↔ (k, d) ∈ P := by
  constructor
  · exact lookP_mem
  · intro h
    unfold lookP
    induction P with
    | nil => cases h
    | cons p P ih =>
      rw [List.find?_cons]
      rw [List.map_cons, List.nodup_cons] at hn
      rcases List.mem_cons.1 h with e | h
      · rw [← e]
        simp
      · have hne : p.1 ≠ k := fun e => hn.1 (by rw [e]; exact List.mem_map_of_mem (f := Prod.fst) h)
        rw [decide_eq_false hne]
        exact ih hn.2 h
theorem perm_look (hp : P.Perm Q) (hn : (P.map (·.1)).Nodup) (k : ByteArray) : lookP k P = lookP k Q := by
  have hn2 : (Q.map (·.1)).Nodup := ((hp.map _).nodup_iff).1 hn
  cases h : lookP k P with
  | some d => exact ((lookP_some_iff hn2).2 (hp.mem_iff.1 ((lookP_some_iff hn).1 h))).symm
  | none =>
    cases h2 : lookP k Q with
    | none => rfl
    | some d => rw [(lookP_some_iff hn).2 (hp.mem_iff.2 ((lookP_some_iff hn2).1 h2))] at h; cases h
theorem useP_perm (hn : (P.map (·.1)).Nodup) (m : TM) (k : ByteArray) : (useP m k P).Perm P := by
  unfold useP
  split
  · cases h : lookP k P with
    | none => exact .refl _
    | some d =>
      show (dropP k P ++ [(k, d)]).Perm P
      have hm := (lookP_some_iff hn).1 h
      obtain ⟨l1, l2, rfl⟩ := List.append_of_mem hm
      have h1 : dropP k (l1 ++ (k, d) :: l2) = l1 ++ l2 := by
        unfold dropP
        rw [List.map_append, List.map_cons] at hn
        have a1 : ∀ p ∈ l1, p.1 ≠ k := fun p hp e => (List.nodup_append.1 hn).2.2 p.1 (List.mem_map_of_mem hp) k (by simp) e
        have a2 : ∀ p ∈ l2, p.1 ≠ k := fun p hp e => (List.nodup_cons.1 (List.nodup_append.1 hn).2.1).1 (by have := List.mem_map_of_mem (f := Prod.fst) hp; rw [e] at this; exact this)
        rw [List.filter_append, List.filter_cons_of_neg (by simp), List.filter_eq_self.2 (by simpa using a1), List.filter_eq_self.2 (by simpa using a2)]
      rw [h1, List.append_assoc]
      exact List.Perm.append_left _ (List.perm_append_singleton _ _)
  · exact .refl _
theorem kinds_code (hp : P.Perm Q) (hn : (P.map (·.1)).Nodup) (hks : m.ks = n.ks) (hvs : m.vs = n.vs) (h2 : m.kd = 2) (h3 : n.kd = 3) (hl : (P.length : Int) < m.mx) : codeP m k v fl P = codeP n k v fl Q := by
  unfold codeP addCP
  rw [perm_look hp hn, hks, hvs, h2, h3]
  simp only [show ¬ (2 : Int) = 1 by decide, show ¬ (3 : Int) = 1 by decide, show ¬ (3 : Int) = 2 by decide, if_false, false_and, true_and]
  rw [if_neg (by omega : ¬ m.mx ≤ (P.length : Int))]
theorem kinds_upd (hp : P.Perm Q) (hn : (P.map (·.1)).Nodup) (hks : m.ks = n.ks) (hvs : m.vs = n.vs) (h2 : m.kd = 2) (h3 : n.kd = 3) (hl : (P.length : Int) < m.mx) (hmx : m.mx = n.mx) :
    (updP m k v fl P).Perm (updP n k v fl Q) ∧ (updP m k v fl P).length ≤ P.length + 1 := by
  have hn2 : (Q.map (·.1)).Nodup := ((hp.map _).nodup_iff).1 hn
  unfold updP
  rw [← kinds_code hp hn hks hvs h2 h3 hl, ← perm_look hp hn]
  split
  · split
    · have e1 : useP m k P = P := by unfold useP; rw [if_neg (by omega)]
      rw [e1]
      refine ⟨(hp.map _).trans (((useP_perm hn2 n k).symm).map _), by simp [setP]⟩
    · unfold addP
      have hql := hp.length_eq
      rw [if_pos (by omega), if_pos (by omega)]
      exact ⟨hp.append_right _, by simp⟩
  · exact ⟨hp, by omega⟩
theorem kinds_del (hp : P.Perm Q) (hn : (P.map (·.1)).Nodup) (hks : m.ks = n.ks) (h2 : m.kd = 2) (h3 : n.kd = 3) : delCP m k P = delCP n k Q ∧ (delP m k P).Perm (delP n k Q) ∧ (delP m k P).length ≤ P.length := by
  unfold delCP delP
  rw [perm_look hp hn, hks, h2, h3]
  simp only [show ¬ (2 : Int) = 1 by decide, show ¬ (3 : Int) = 1 by decide, if_false]
  refine ⟨by trivial, hp.filter _, List.length_filter_le _ _⟩
end

/-! ### The tables -/
structure KSt (W0 : World) (ub : Nat) (m n : TM) (bt bu : Nat) (P1 P2 : List Pr) (F1 F2 : Nat → Prop) (w : World) : Prop where
  a : Ses m bt P1 F1 w
  b : Ses n bu P2 F2 w
  dis : ∀ b, F1 b → ¬ F2 b
  at' : ∀ b, F1 b ∨ F2 b → W0.heap.size ≤ b ∧ b ≠ ub ∧ b < w.heap.size
  box : Box w ub (.pointer (some ⟨bu, 0, none⟩))
  back : Kept (fun _ => False) W0 w
  ub0 : W0.heap.size ≤ ub
section
variable {W0 w w0 w1 : World} {ub bt bu : Nat} {m n : TM} {P1 P2 : List Pr} {F1 F2 : Nat → Prop} {a va : Option Addr} {l c vl vc : Nat} {k v : ByteArray} {fl : Int}
theorem KSt.keep (h : KSt W0 ub m n bt bu P1 P2 F1 F2 w) (q : Kept (fun _ => False) w w1) : KSt W0 ub m n bt bu P1 P2 F1 F2 w1 :=
  ⟨h.a.keep q, h.b.keep q, h.dis, fun b hb => by have := h.at' b hb; have := q.size; omega, h.box.kept q (fun e => e), h.back.trans q (fun _ _ e => e), h.ub0⟩
theorem kst_step1 {P' : List Pr} {F' : Nat → Prop} (h : KSt W0 ub m n bt bu P1 P2 F1 F2 w0) (q : Kept (fun _ => False) w0 w1) (hs : Ses m bt P' F' w) (hF : ∀ b, F' b → F1 b ∨ (w0.heap.size ≤ b ∧ b < w.heap.size)) (k1 : Kept F1 w1 w) : KSt W0 ub m n bt bu P' P2 F' F2 w := by
  have h1 := h.keep q
  have hz := q.size
  have hk := k1.size
  have hub := h.box.lt
  refine ⟨hs, h1.b.kept k1 (fun b hb e => h.dis b e hb), fun b hb hb2 => ?_, fun b hb => ?_, h1.box.kept k1 (fun e => (h.at' ub (.inl e)).2.1 rfl), one_kept h1.back (k1.mono fun b _ e => (h.at' b (.inl e)).1), h.ub0⟩
  · rcases hF b hb with e | e
    · exact h.dis b e hb2
    · have := h.at' b (.inr hb2)
      omega
  · rcases hb with hb | hb
    · rcases hF b hb with e | e
      · have := h.at' b (.inl e)
        omega
      · have := h.back.size
        omega
    · have := h.at' b (.inr hb)
      omega
theorem kst_step2 {P' : List Pr} {F' : Nat → Prop} (h : KSt W0 ub m n bt bu P1 P2 F1 F2 w0) (q : Kept (fun _ => False) w0 w1) (hs : Ses n bu P' F' w) (hF : ∀ b, F' b → F2 b ∨ (w0.heap.size ≤ b ∧ b < w.heap.size)) (k1 : Kept F2 w1 w) : KSt W0 ub m n bt bu P1 P' F1 F' w := by
  have h1 := h.keep q
  have hz := q.size
  have hk := k1.size
  have hub := h.box.lt
  refine ⟨h1.a.kept k1 (fun b hb e => h.dis b hb e), hs, fun b hb hb2 => ?_, fun b hb => ?_, h1.box.kept k1 (fun e => (h.at' ub (.inr e)).2.1 rfl), one_kept h1.back (k1.mono fun b _ e => (h.at' b (.inr e)).1), h.ub0⟩
  · rcases hF b hb2 with e | e
    · exact h.dis b hb e
    · have := h.at' b (.inl hb)
      omega
  · rcases hb with hb | hb
    · have := h.at' b (.inl hb)
      omega
    · rcases hF b hb with e | e
      · have := h.at' b (.inr e)
        omega
      · have := h.back.size
        omega
theorem kst_look1 (h : KSt W0 ub m n bt bu P1 P2 F1 F2 w0) (q : Kept (fun _ => False) w0 w1) (hk : BytesAt w1 a l k) :
    Calls Try.prog 22 #[.pointer (some ⟨bt, 0, none⟩), .slice a l c] w1 fun e w' => ∃ x, e = .returned (.tuple #[x, .bool (lookP k P1).isSome]) ∧ KSt W0 ub m n bt bu (useP m k P1) P2 F1 F2 w' ∧ Found w' F1 k (lookP k P1) x ∧ Kept F1 w1 w' := by
  refine (ses_look (c := c) h.a q hk).mono ?_
  rintro e w' ⟨x, rfl, hs, hf, kk⟩
  exact ⟨x, rfl, kst_step1 h q hs (fun b hb => .inl hb) kk, hf, kk⟩
theorem kst_look2 (h : KSt W0 ub m n bt bu P1 P2 F1 F2 w0) (q : Kept (fun _ => False) w0 w1) (hk : BytesAt w1 a l k) :
    Calls Try.prog 22 #[.pointer (some ⟨bu, 0, none⟩), .slice a l c] w1 fun e w' => ∃ x, e = .returned (.tuple #[x, .bool (lookP k P2).isSome]) ∧ KSt W0 ub m n bt bu P1 (useP n k P2) F1 F2 w' ∧ Found w' F2 k (lookP k P2) x ∧ Kept F2 w1 w' := by
  refine (ses_look (c := c) h.b q hk).mono ?_
  rintro e w' ⟨x, rfl, hs, hf, kk⟩
  exact ⟨x, rfl, kst_step2 h q hs (fun b hb => .inl hb) kk, hf, kk⟩
theorem kst_upd1 (h : KSt W0 ub m n bt bu P1 P2 F1 F2 w0) (q : Kept (fun _ => False) w0 w1) (hk : BytesAt w1 a l k) (hv : BytesAt w1 va vl v) (hva : ∀ b o, va = some ⟨b, o, none⟩ → ¬ F1 b ∨ w0.heap.size ≤ b) :
    Calls Try.prog 20 #[.pointer (some ⟨bt, 0, none⟩), .slice a l c, .slice va vl vc, .int .i64 fl] w1 fun e w' => e = .returned (.int .i64 (codeP m k v fl P1)) ∧ (∃ F', KSt W0 ub m n bt bu (updP m k v fl P1) P2 F' F2 w' ∧ ∀ b, F' b → F1 b ∨ w0.heap.size ≤ b) ∧ Kept F1 w1 w' := by
  refine (ses_upd (c := c) (vc := vc) (fl := fl) h.a q hk hv hva).mono ?_
  rintro e w' ⟨rfl, hs, kk⟩
  exact ⟨rfl, ⟨_, kst_step1 h q hs (fun b hb => hb) kk, fun b hb => hb.imp id (·.1)⟩, kk⟩
theorem kst_upd2 (h : KSt W0 ub m n bt bu P1 P2 F1 F2 w0) (q : Kept (fun _ => False) w0 w1) (hk : BytesAt w1 a l k) (hv : BytesAt w1 va vl v) (hva : ∀ b o, va = some ⟨b, o, none⟩ → ¬ F2 b ∨ w0.heap.size ≤ b) :
    Calls Try.prog 20 #[.pointer (some ⟨bu, 0, none⟩), .slice a l c, .slice va vl vc, .int .i64 fl] w1 fun e w' => e = .returned (.int .i64 (codeP n k v fl P2)) ∧ (∃ F', KSt W0 ub m n bt bu P1 (updP n k v fl P2) F1 F' w' ∧ ∀ b, F' b → F2 b ∨ w0.heap.size ≤ b) ∧ Kept F2 w1 w' := by
  refine (ses_upd (c := c) (vc := vc) (fl := fl) h.b q hk hv hva).mono ?_
  rintro e w' ⟨rfl, hs, kk⟩
  exact ⟨rfl, ⟨_, kst_step2 h q hs (fun b hb => hb) kk, fun b hb => hb.imp id (·.1)⟩, kk⟩
theorem kst_del1 (h : KSt W0 ub m n bt bu P1 P2 F1 F2 w0) (q : Kept (fun _ => False) w0 w1) (hk : BytesAt w1 a l k) :
    Calls Try.prog 23 #[.pointer (some ⟨bt, 0, none⟩), .slice a l c] w1 fun e w' => e = .returned (.int .i64 (delCP m k P1)) ∧ KSt W0 ub m n bt bu (delP m k P1) P2 F1 F2 w' ∧ Kept F1 w1 w' := by
  refine (ses_del (c := c) h.a q hk).mono ?_
  rintro e w' ⟨rfl, hs, kk⟩
  exact ⟨rfl, kst_step1 h q hs (fun b hb => .inl hb) kk, kk⟩
theorem kst_del2 (h : KSt W0 ub m n bt bu P1 P2 F1 F2 w0) (q : Kept (fun _ => False) w0 w1) (hk : BytesAt w1 a l k) :
    Calls Try.prog 23 #[.pointer (some ⟨bu, 0, none⟩), .slice a l c] w1 fun e w' => e = .returned (.int .i64 (delCP n k P2)) ∧ KSt W0 ub m n bt bu P1 (delP n k P2) F1 F2 w' ∧ Kept F2 w1 w' := by
  refine (ses_del (c := c) h.b q hk).mono ?_
  rintro e w' ⟨rfl, hs, kk⟩
  exact ⟨rfl, kst_step2 h q hs (fun b hb => .inl hb) kk, kk⟩
theorem kst_start {w4 w5 : World} (hs1 : Ses m bt P1 (fun b => W0.heap.size ≤ b ∧ b < w4.heap.size) w4) (k4 : Kept (fun _ => False) W0 w4) (hs2 : Ses n bu P2 (fun b => w4.heap.size ≤ b ∧ b < w5.heap.size) w5) (k5 : Kept (fun _ => False) w4 w5) (t : TypeId) :
    KSt W0 w5.heap.size m n bt bu P1 P2 (fun b => W0.heap.size ≤ b ∧ b < w4.heap.size) (fun b => w4.heap.size ≤ b ∧ b < w5.heap.size) (w5.alloc (.cells #[.pointer (some ⟨bu, 0, none⟩)] t)) := by
  have ka := Kept.one_alloc w5 (.cells #[.pointer (some ⟨bu, 0, none⟩)] t)
  have z4 := k4.size
  have z5 := k5.size
  refine ⟨(hs1.keep k5).keep ka, hs2.keep ka, fun b h1 h2 => by omega, fun b hb => ?_, Box.new w5 _ t, (k4.trans k5 (fun _ _ e => e)).trans ka (fun _ _ e => e), by omega⟩
  rw [World.size_alloc]
  rcases hb with h | h <;> refine ⟨?_, ?_, ?_⟩ <;> omega
theorem KSt.out (h : KSt W0 ub m n bt bu P1 P2 F1 F2 w) {b : Nat} (hb : b < w.heap.size) (hn : b < W0.heap.size ∨ b = ub) : ¬ F1 b ∧ ¬ F2 b := by
  refine ⟨fun e => ?_, fun e => ?_⟩
  · have := h.at' b (.inl e)
    omega
  · have := h.at' b (.inr e)
    omega
end

/-! ### In a round: the tables, a key and a value in rows of their own, and a block beside them -/
structure PSt (W0 : World) (ub : Nat) (m n : TM) (bt bu : Nat) (sb kx vx : Nat) (fl : Int) (k v : ByteArray) (P1 P2 : List Pr) (w : World) : Prop where
  ex : ∃ F1 F2, KSt W0 ub m n bt bu P1 P2 F1 F2 w ∧ (∀ b, b = sb ∨ b = kx ∨ b = vx → ¬ F1 b ∧ ¬ F2 b)
  bk : BytesAt w (some ⟨kx, 0, none⟩) k.size k
  bv : BytesAt w (some ⟨vx, 0, none⟩) v.size v
  c3 : w.cell? ⟨sb, 3, none⟩ = some (.int .i64 fl)
  lt : ∀ b, b = sb ∨ b = kx ∨ b = vx → b < w.heap.size
section
variable {W0 w w0 w1 : World} {ub bt bu : Nat} {m n : TM} {sb kx vx : Nat} {fl : Int} {k v : ByteArray} {P1 P2 : List Pr} {c vc : Nat}
theorem PSt.change {S : Nat → Prop} {P1' P2' : List Pr} (h : PSt W0 ub m n bt bu sb kx vx fl k v P1 P2 w0) (q : Kept S w0 w) (hS : ∀ b, b = sb ∨ b = kx ∨ b = vx → ¬ S b) (ex : ∃ F1 F2, KSt W0 ub m n bt bu P1' P2' F1 F2 w ∧ (∀ b, b = sb ∨ b = kx ∨ b = vx → ¬ F1 b ∧ ¬ F2 b)) : PSt W0 ub m n bt bu sb kx vx fl k v P1' P2' w :=
  ⟨ex, h.bk.kept q (fun b o e => by cases e; exact hS _ (.inr (.inl rfl))), h.bv.kept q (fun b o e => by cases e; exact hS _ (.inr (.inr rfl))), (q.cell (p := ⟨sb, 3, none⟩) (h.lt sb (.inl rfl)) (hS sb (.inl rfl))).trans h.c3, fun b hb => Nat.lt_of_lt_of_le (h.lt b hb) q.size⟩
theorem PSt.keep (h : PSt W0 ub m n bt bu sb kx vx fl k v P1 P2 w0) (q : Kept (fun _ => False) w0 w1) : PSt W0 ub m n bt bu sb kx vx fl k v P1 P2 w1 := by
  obtain ⟨F1, F2, hk, hn⟩ := h.ex
  exact h.change q (fun _ _ e => e) ⟨F1, F2, hk.keep q, hn⟩
theorem PSt.box (h : PSt W0 ub m n bt bu sb kx vx fl k v P1 P2 w0) : w0.cell? ⟨ub, 0, none⟩ = some (.pointer (some ⟨bu, 0, none⟩)) := by
  obtain ⟨F1, F2, hk, hn⟩ := h.ex
  exact hk.box.cell
theorem pst_upd1 (h : PSt W0 ub m n bt bu sb kx vx fl k v P1 P2 w0) (q : Kept (fun _ => False) w0 w1) :
    Calls Try.prog 20 #[.pointer (some ⟨bt, 0, none⟩), .slice (some ⟨kx, 0, none⟩) k.size c, .slice (some ⟨vx, 0, none⟩) v.size vc, .int .i64 fl] w1 fun e w' => e = .returned (.int .i64 (codeP m k v fl P1)) ∧ (w'.cell? ⟨sb, 3, none⟩ = some (.int .i64 fl) ∧ w'.cell? ⟨ub, 0, none⟩ = some (.pointer (some ⟨bu, 0, none⟩))) ∧ PSt W0 ub m n bt bu sb kx vx fl k v (updP m k v fl P1) P2 w' := by
  obtain ⟨F1, F2, hk, hn⟩ := h.ex
  have h1 := h.keep q
  refine (kst_upd1 (c := c) (vc := vc) (fl := fl) hk q h1.bk h1.bv (fun b o e => by cases e; exact .inl (hn _ (.inr (.inr rfl))).1)).mono ?_
  rintro e w' ⟨rfl, ⟨F', hs, hF⟩, kk⟩
  have h2 : PSt W0 ub m n bt bu sb kx vx fl k v (updP m k v fl P1) P2 w' := h1.change kk (fun b hb => (hn b hb).1) ⟨F', F2, hs, fun b hb => ⟨fun e => (hF b e).elim (hn b hb).1 (fun e => by have := h.lt b hb; omega), (hn b hb).2⟩⟩
  exact ⟨rfl, ⟨h2.c3, h2.box⟩, h2⟩
theorem pst_upd2 (h : PSt W0 ub m n bt bu sb kx vx fl k v P1 P2 w0) (q : Kept (fun _ => False) w0 w1) :
    Calls Try.prog 20 #[.pointer (some ⟨bu, 0, none⟩), .slice (some ⟨kx, 0, none⟩) k.size c, .slice (some ⟨vx, 0, none⟩) v.size vc, .int .i64 fl] w1 fun e w' => e = .returned (.int .i64 (codeP n k v fl P2)) ∧ (w'.cell? ⟨sb, 3, none⟩ = some (.int .i64 fl) ∧ w'.cell? ⟨ub, 0, none⟩ = some (.pointer (some ⟨bu, 0, none⟩))) ∧ PSt W0 ub m n bt bu sb kx vx fl k v P1 (updP n k v fl P2) w' := by
  obtain ⟨F1, F2, hk, hn⟩ := h.ex
  have h1 := h.keep q
  refine (kst_upd2 (c := c) (vc := vc) (fl := fl) hk q h1.bk h1.bv (fun b o e => by cases e; exact .inl (hn _ (.inr (.inr rfl))).2)).mono ?_
  rintro e w' ⟨rfl, ⟨F', hs, hF⟩, kk⟩
  have h2 : PSt W0 ub m n bt bu sb kx vx fl k v P1 (updP n k v fl P2) w' := h1.change kk (fun b hb => (hn b hb).2) ⟨F1, F', hs, fun b hb => ⟨(hn b hb).1, fun e => (hF b e).elim (hn b hb).2 (fun e => by have := h.lt b hb; omega)⟩⟩
  exact ⟨rfl, ⟨h2.c3, h2.box⟩, h2⟩
theorem pst_del1 (h : PSt W0 ub m n bt bu sb kx vx fl k v P1 P2 w0) (q : Kept (fun _ => False) w0 w1) :
    Calls Try.prog 23 #[.pointer (some ⟨bt, 0, none⟩), .slice (some ⟨kx, 0, none⟩) k.size c] w1 fun e w' => e = .returned (.int .i64 (delCP m k P1)) ∧ w'.cell? ⟨ub, 0, none⟩ = some (.pointer (some ⟨bu, 0, none⟩)) ∧ PSt W0 ub m n bt bu sb kx vx fl k v (delP m k P1) P2 w' := by
  obtain ⟨F1, F2, hk, hn⟩ := h.ex
  have h1 := h.keep q
  refine (kst_del1 (c := c) hk q h1.bk).mono ?_
  rintro e w' ⟨rfl, hs, kk⟩
  have h2 : PSt W0 ub m n bt bu sb kx vx fl k v (delP m k P1) P2 w' := h1.change kk (fun b hb => (hn b hb).1) ⟨F1, F2, hs, hn⟩
  exact ⟨rfl, h2.box, h2⟩
theorem pst_del2 (h : PSt W0 ub m n bt bu sb kx vx fl k v P1 P2 w0) (q : Kept (fun _ => False) w0 w1) :
    Calls Try.prog 23 #[.pointer (some ⟨bu, 0, none⟩), .slice (some ⟨kx, 0, none⟩) k.size c] w1 fun e w' => e = .returned (.int .i64 (delCP n k P2)) ∧ w'.cell? ⟨ub, 0, none⟩ = some (.pointer (some ⟨bu, 0, none⟩)) ∧ PSt W0 ub m n bt bu sb kx vx fl k v P1 (delP n k P2) w' := by
  obtain ⟨F1, F2, hk, hn⟩ := h.ex
  have h1 := h.keep q
  refine (kst_del2 (c := c) hk q h1.bk).mono ?_
  rintro e w' ⟨rfl, hs, kk⟩
  have h2 : PSt W0 ub m n bt bu sb kx vx fl k v P1 (delP n k P2) w' := h1.change kk (fun b hb => (hn b hb).2) ⟨F1, F2, hs, hn⟩
  exact ⟨rfl, h2.box, h2⟩
theorem pst_len1 (h : PSt W0 ub m n bt bu sb kx vx fl k v P1 P2 w0) (q : Kept (fun _ => False) w0 w1) :
    Calls Try.prog 17 #[.pointer (some ⟨bt, 0, none⟩)] w1 fun e w' => e = .returned (.int .i64 (P1.length : Nat)) ∧ w'.cell? ⟨ub, 0, none⟩ = some (.pointer (some ⟨bu, 0, none⟩)) ∧ Kept (fun _ => False) w0 w' := by
  have h1 := h.keep q
  obtain ⟨F1, F2, hk, hn⟩ := h1.ex
  refine (ses_len hk.a).mono ?_
  rintro e w' ⟨rfl, kk⟩
  exact ⟨rfl, (h1.keep kk).box, q.trans kk (fun _ _ e => e)⟩
theorem pst_len2 (h : PSt W0 ub m n bt bu sb kx vx fl k v P1 P2 w0) (q : Kept (fun _ => False) w0 w1) :
    Calls Try.prog 17 #[.pointer (some ⟨bu, 0, none⟩)] w1 fun e w' => e = .returned (.int .i64 (P2.length : Nat)) ∧ w'.cell? ⟨ub, 0, none⟩ = some (.pointer (some ⟨bu, 0, none⟩)) ∧ Kept (fun _ => False) w0 w' := by
  have h1 := h.keep q
  obtain ⟨F1, F2, hk, hn⟩ := h1.ex
  refine (ses_len hk.b).mono ?_
  rintro e w' ⟨rfl, kk⟩
  exact ⟨rfl, (h1.keep kk).box, q.trans kk (fun _ _ e => e)⟩
/-- An entry that a Lookup handed out, or none. -/
structure EnV (w : World) (k : ByteArray) (o : Option ByteArray) (x : Value) (F : Nat → Prop) : Prop where
  none' : o = none → x = .pointer none
  some' : ∀ d, o = some d → ∃ b e c, x = .pointer (some ⟨b, 0, none⟩) ∧ w.cell? ⟨b, 0, none⟩ = some (.string k) ∧ w.cell? ⟨b, 1, none⟩ = some (.slice (some ⟨e, 0, none⟩) d.size c) ∧ BytesAt w (some ⟨e, 0, none⟩) d.size d ∧ F b ∧ F e ∧ b < w.heap.size
theorem Found.env {F : Nat → Prop} {o : Option ByteArray} {x : Value} (h : Found w F k o x) : EnV w k o x F := by
  cases o with
  | none => exact ⟨fun _ => h, fun d e => by cases e⟩
  | some d =>
    obtain ⟨y, rfl, he, rfl, rfl, -, hb, hd⟩ := h
    exact ⟨fun e => (by cases e), fun d e => by cases e; exact ⟨_, _, _, rfl, he.key, he.sl, he.data, hb, hd, he.row.lt⟩⟩
theorem EnV.kept {F S : Nat → Prop} {o : Option ByteArray} {x : Value} (h : EnV w k o x F) (q : Kept S w w1) (hS : ∀ b, F b → ¬ S b) : EnV w1 k o x F :=
  ⟨h.none', fun d e => by
    obtain ⟨b, e, c, h1, h2, h3, h4, h5, h6, h7⟩ := h.some' d e
    exact ⟨b, e, c, h1, (q.cell (p := ⟨b, 0, none⟩) h7 (hS b h5)).trans h2, (q.cell (p := ⟨b, 1, none⟩) h7 (hS b h5)).trans h3, h4.kept q (fun b' o' e' => by cases e'; exact hS _ h6), h5, h6, Nat.lt_of_lt_of_le h7 q.size⟩⟩
/-- Both tables looked up. -/
theorem pst_look1 (h : PSt W0 ub m n bt bu sb kx vx fl k v P1 P2 w0) (q : Kept (fun _ => False) w0 w1) :
    Calls Try.prog 22 #[.pointer (some ⟨bt, 0, none⟩), .slice (some ⟨kx, 0, none⟩) k.size c] w1 fun e w' => ∃ x, e = .returned (.tuple #[x, .bool (lookP k P1).isSome]) ∧ PSt W0 ub m n bt bu sb kx vx fl k v (useP m k P1) P2 w' ∧
      ∀ w1', Kept (fun _ => False) w' w1' → Calls Try.prog 22 #[.pointer (some ⟨bu, 0, none⟩), .slice (some ⟨kx, 0, none⟩) k.size c] w1' fun e w'' => ∃ y, e = .returned (.tuple #[y, .bool (lookP k P2).isSome]) ∧ PSt W0 ub m n bt bu sb kx vx fl k v (useP m k P1) (useP n k P2) w'' ∧ (∃ F, EnV w'' k (lookP k P1) x F) ∧ ∃ F, EnV w'' k (lookP k P2) y F := by
  obtain ⟨F1, F2, hk, hn⟩ := h.ex
  have h1 := h.keep q
  refine (kst_look1 (c := c) hk q h1.bk).mono ?_
  rintro e w' ⟨x, rfl, hs, hf, kk⟩
  have h2 : PSt W0 ub m n bt bu sb kx vx fl k v (useP m k P1) P2 w' := h1.change kk (fun b hb => (hn b hb).1) ⟨F1, F2, hs, hn⟩
  refine ⟨x, rfl, h2, fun w1' q2 => ?_⟩
  have h3 := h2.keep q2
  refine (kst_look2 (c := c) hs q2 h3.bk).mono ?_
  rintro e w'' ⟨y, rfl, hs2, hf2, kk2⟩
  exact ⟨y, rfl, h3.change kk2 (fun b hb => (hn b hb).2) ⟨F1, F2, hs2, hn⟩, ⟨F1, (hf.env.kept q2 (fun _ _ e => e)).kept kk2 (fun b e => hs.dis b e)⟩, ⟨F2, hf2.env⟩⟩
end
end Go.Proofs.Ytalahbmahpgkeaa
