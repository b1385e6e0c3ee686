/- One entry of a table of one's own, and who has it: put, used, written into, let go. -/
import Derived.Test.YtalahbmahpgkeaaFit
namespace Go.Proofs.Ytalahbmahpgkeaa
set_option linter.unusedVariables false
set_option linter.unusedSimpArgs false
open Go.RowKit Go.MapKept

section
variable {W w w0 w1 : World} {m : TM} {bt : Nat} {iv : Value} {E E' : List En} {F : Nat → Prop} {a va : Option Addr} {n c vn vc : Nat} {k v : ByteArray} {fl : Int} {x z : En}
theorem lookT_mem (hn : (E.map (·.key)).Nodup) (hx : x ∈ E) : lookT x.key E = some x := by
  rcases split_en hn x.key with ⟨_, h, _⟩ | ⟨l1, y, l2, rfl, e, h, _⟩
  · exact (h x hx rfl).elim
  · rw [h]
    congr 1
    have hn' := hn
    rw [List.map_append, List.map_cons] at hn'
    simp only [List.mem_append, List.mem_cons] at hx
    rcases hx with hx | rfl | hx
    · have : x.key ∈ l1.map (·.key) := List.mem_map_of_mem hx
      grind
    · rfl
    · have : x.key ∈ l2.map (·.key) := List.mem_map_of_mem hx
      grind
theorem setT_mem (hx : x ∈ E) (v : ByteArray) : { x with data := v } ∈ setT x.key v E := by
  unfold setT
  exact List.mem_map.2 ⟨x, hx, by simp⟩
theorem useT_one (m : TM) (k : ByteArray) (x : En) : useT m k [x] = [x] := by
  unfold useT lookT dropT
  by_cases h : x.key = k
  · simp [h]
  · simp [h]

/-- The entry x of key k is in the table at bt; of a table that is no array it is the only one. -/
def In1 (W : World) (m : TM) (bt : Nat) (k : ByteArray) (x : En) (w : World) : Prop := ∃ iv E F, Made W m bt iv E F w ∧ x ∈ E ∧ x.key = k ∧ (m.kd ≠ 1 → E = [x])
theorem In1.keep (h : In1 W m bt k x w) (q : Kept (fun _ => False) w w1) : In1 W m bt k x w1 := by
  obtain ⟨iv, E, F, h1, h2⟩ := h
  exact ⟨iv, E, F, h1.kept q, h2⟩
theorem In1.back (h : In1 W m bt k x w) : Kept (fun _ => False) W w := by obtain ⟨iv, E, F, h1, h2⟩ := h; exact h1.2.2
theorem In1.en (h : In1 W m bt k x w) : EnAt w x ∧ x.b ≠ x.d ∧ x.key = k ∧ (x.data.size : Int) = m.vs ∧ (k.size : Int) = m.ks := by
  obtain ⟨iv, E, F, h1, h2, h3, h4⟩ := h
  exact ⟨h1.1.en x h2, (blocks_ne h1.1.blocks h2 h2).1, h3, (h1.1.size x h2).2, by rw [← h3]; exact (h1.1.size x h2).1⟩
/-- A value that was just made lies in no block of a table's. -/
theorem made_new (h : Made W m bt iv E F w0) (q : Kept (fun _ => False) w0 w1) {vb : Nat} (hvb : w0.heap.size ≤ vb) : ∀ b o, (some (⟨vb, 0, none⟩ : Addr)) = some ⟨b, o, none⟩ → ¬ F b := by
  intro b o e hf
  cases e
  have := h.1.kind.lt h.1.right _ hf
  omega
theorem in_first (h : Made W m bt iv E F w0) (hE : NewE m E) (q : Kept (fun _ => False) w0 w1) (hk : BytesAt w1 a n k) {vb : Nat} (hv : BytesAt w1 (some ⟨vb, 0, none⟩) vn v) (hvb : w0.heap.size ≤ vb)
    (hks : (k.size : Int) = m.ks) (hvs : (v.size : Int) = m.vs) (h1 : m.kd = 1 → k = numK 0) :
    Calls Try.prog 20 #[.pointer (some ⟨bt, 0, none⟩), .slice a n c, .slice (some ⟨vb, 0, none⟩) vn vc, .int .i64 0] w1 fun e w' => e = .returned (.int .i64 0) ∧ ∃ x, x.data = v ∧ In1 W m bt k x w' := by
  have hr := (rightB_iff _ _ _ _ _).1 h.1.right
  refine (made_upd (c := c) (vc := vc) (fl := 0) h q hk hv (made_new h q hvb)).mono ?_
  rintro e w' ⟨rfl, ⟨E', F', hU, hm, -⟩, -⟩
  have hg : ¬ ((k.size : Int) ≠ m.ks ∨ (v.size : Int) ≠ m.vs ∨ (0 : Int) < 0 ∨ (2 : Int) < 0) := by omega
  by_cases hkd : m.kd = 1
  · obtain ⟨y, hy, hyk⟩ : ∃ y ∈ E, y.key = k := by
      have ha := h.1.arr hkd
      have : numK 0 ∈ E.map (·.key) := by rw [ha]; exact List.mem_map_of_mem (List.mem_range.2 (by omega))
      obtain ⟨y, hy, e⟩ := List.mem_map.1 this
      exact ⟨y, hy, by rw [h1 hkd]; exact e⟩
    have hl : lookT k E = some y := by rw [← hyk]; exact lookT_mem h.1.keys hy
    have hc : updC m k v 0 E = 0 := by unfold updC; rw [if_neg hg, hl]; rfl
    unfold UpdE at hU
    rw [if_pos hc, hl, if_pos (Option.isSome_some)] at hU
    refine ⟨by rw [hc], { y with data := v }, rfl, iv, E', F', hm, ?_, hyk, fun e => (e hkd).elim⟩
    rw [hU, ← hyk]
    exact setT_mem ((useT_perm h.1.keys m y.key).mem_iff.2 hy) v
  · obtain rfl : E = [] := hE.1 hkd
    have hc : updC m k v 0 [] = 0 := by
      unfold updC addC
      rw [if_neg hg]
      simp only [lookT, List.find?_nil, Option.isSome_none, Bool.false_eq_true, if_false, List.length_nil]
      rw [if_neg (by omega), if_neg hkd, if_neg]
      rintro ⟨-, h⟩
      simp at h
      omega
    unfold UpdE at hU
    rw [if_pos hc, if_neg (by simp [lookT])] at hU
    obtain ⟨eb, ed, ec, -, -, rfl⟩ := hU
    refine ⟨by rw [hc], ⟨eb, ed, ec, k, v⟩, rfl, iv, _, F', hm, ?_, rfl, ?_⟩
    · unfold addT
      rw [if_pos (by simp; omega)]
      simp
    · intro _
      unfold addT
      rw [if_pos (by simp; omega)]
      rfl
theorem in_look (h : In1 W m bt k x w0) (q : Kept (fun _ => False) w0 w1) (hk : BytesAt w1 a n k) :
    Calls Try.prog 22 #[.pointer (some ⟨bt, 0, none⟩), .slice a n c] w1 fun e w' => e = .returned (.tuple #[.pointer (some ⟨x.b, 0, none⟩), .bool true]) ∧ In1 W m bt k x w' := by
  obtain ⟨iv, E, F, h1, h2, h3, h4⟩ := h
  have hl : lookT k E = some x := by rw [← h3]; exact lookT_mem h1.1.keys h2
  refine (made_look (c := c) h1 q hk).mono ?_
  rintro e w' ⟨rfl, F', hm, -, -⟩
  rw [hl]
  refine ⟨rfl, iv, _, F', hm, (useT_perm h1.1.keys m k).mem_iff.2 h2, h3, fun e => ?_⟩
  rw [h4 e, useT_one]
theorem in_upd (h : In1 W m bt k x w0) (q : Kept (fun _ => False) w0 w1) (hk : BytesAt w1 a n k) {vb : Nat} (hv : BytesAt w1 (some ⟨vb, 0, none⟩) vn v) (hvb : w0.heap.size ≤ vb) (hvs : (v.size : Int) = m.vs) (hf : fl = 0 ∨ fl = 2) :
    Calls Try.prog 20 #[.pointer (some ⟨bt, 0, none⟩), .slice a n c, .slice (some ⟨vb, 0, none⟩) vn vc, .int .i64 fl] w1 fun e w' => e = .returned (.int .i64 0) ∧ In1 W m bt k { x with data := v } w' := by
  have hen := h.en
  obtain ⟨iv, E, F, h1, h2, h3, h4⟩ := h
  have hl : lookT k E = some x := by rw [← h3]; exact lookT_mem h1.1.keys h2
  refine (made_upd (c := c) (vc := vc) (fl := fl) h1 q hk hv (made_new h1 q hvb)).mono ?_
  rintro e w' ⟨rfl, ⟨E', F', hU, hm, -⟩, -⟩
  have hg : ¬ ((k.size : Int) ≠ m.ks ∨ (v.size : Int) ≠ m.vs ∨ fl < 0 ∨ 2 < fl) := by have := hen.2.2.2.2; omega
  have hc : updC m k v fl E = 0 := by unfold updC; rw [if_neg hg, hl]; simp; omega
  unfold UpdE at hU
  rw [if_pos hc, hl, if_pos (Option.isSome_some)] at hU
  refine ⟨by rw [hc], iv, E', F', hm, ?_, h3, fun e => ?_⟩
  · rw [hU, ← h3]
    exact setT_mem ((useT_perm h1.1.keys m x.key).mem_iff.2 h2) v
  · rw [hU, h4 e, useT_one]
    simp [setT, h3]
theorem in_poke (h : In1 W m bt k x w) {j : Nat} (hj : j < x.data.size) (u : UInt8) : In1 W m bt k { x with data := pokeB x.data j u } (w.setCell ⟨x.d, j, none⟩ (.int .u8 (u.toNat : Int))) := by
  obtain ⟨iv, E, F, h1, h2, h3, h4⟩ := h
  refine ⟨iv, _, F, made_poke h1 h2 hj u, setT_mem h2 _, h3, fun e => ?_⟩
  rw [h4 e]
  simp [setT]

theorem made_del (h : Made W m bt iv E F w0) (q : Kept (fun _ => False) w0 w1) (hk : BytesAt w1 a n k) :
    Calls Try.prog 23 #[.pointer (some ⟨bt, 0, none⟩), .slice a n c] w1 fun e w' => e = .returned (.int .i64 (delC m k E)) ∧ ∃ F', Made W m bt iv (delE m k E) F' w' ∧ (∀ b, F' b → F b) ∧ Kept F w1 w' := by
  have h1 := h.kept q
  refine (delete_any (c := c) h1.1 hk).mono ?_
  rintro e w' ⟨rfl, ⟨F', h2, h3⟩, kk⟩
  refine ⟨rfl, F', ⟨h2, ?_, one_kept h1.2.2 (kk.mono fun b _ e => h1.2.1 b (.inr (.inl e)))⟩, h3, kk⟩
  rintro b (rfl | hf | ⟨x, hx, hb⟩)
  · exact h.2.1 _ (.inl rfl)
  · exact h.2.1 _ (.inr (.inl (h3 b hf)))
  · exact h.2.1 b (.inr (.inr ⟨x, delE_mem hx, hb⟩))

/-- The entry x is gone; the table has nothing. -/
def Out1 (W : World) (m : TM) (bt : Nat) (x : En) (w : World) : Prop := ∃ iv F, Made W m bt iv [] F w ∧ EnAt w x ∧ x.b ≠ x.d ∧ ¬ F x.d ∧ ¬ F x.b ∧ x.d ≠ bt ∧ W.heap.size ≤ x.d
theorem in_del (h : In1 W m bt k x w0) (hkd : m.kd ≠ 1) (q : Kept (fun _ => False) w0 w1) (hk : BytesAt w1 a n k) :
    Calls Try.prog 23 #[.pointer (some ⟨bt, 0, none⟩), .slice a n c] w1 fun e w' => e = .returned (.int .i64 0) ∧ Out1 W m bt x w' := by
  have hen := h.en
  obtain ⟨iv, E, F, h1, h2, h3, h4⟩ := h
  obtain rfl := h4 hkd
  refine (made_del (c := c) h1 q hk).mono ?_
  rintro e w' ⟨rfl, F', hm, hF, kk⟩
  have ha : ∀ b, F b → b ≠ x.b ∧ b ≠ x.d := fun b hb => (h1.1.apart b hb).2 x (by simp)
  refine ⟨?_, iv, F', ?_, (hen.1.kept q (fun e => e) (fun e => e)).kept kk (fun e => (ha _ e).1 rfl) (fun e => (ha _ e).2 rfl), hen.2.1, fun e => (ha _ (hF _ e)).2 rfl, fun e => (ha _ (hF _ e)).1 rfl, (h1.1.own x (by simp)).2, h1.2.1 _ (.inr (.inr ⟨x, by simp, .inr rfl⟩))⟩
  · unfold delC
    rw [if_neg (by have := hen.2.2.2.2; omega), if_neg hkd]
    simp [lookT, h3]
  · have : delE m k [x] = [] := by
      unfold delE dropT
      rw [if_neg hkd]
      simp [h3]
    rw [this] at hm
    exact hm
/-- The entry z is there, x is gone. -/
def Two1 (W : World) (m : TM) (bt : Nat) (k : ByteArray) (x z : En) (w : World) : Prop := ∃ iv F, Made W m bt iv [z] F w ∧ z.key = k ∧ EnAt w x ∧ ¬ Tfp bt [z] F x.d ∧ W.heap.size ≤ x.d
theorem out_put (h : Out1 W m bt x w0) (hkd : m.kd ≠ 1) (q : Kept (fun _ => False) w0 w1) (hk : BytesAt w1 a n k) {vb : Nat} (hv : BytesAt w1 (some ⟨vb, 0, none⟩) vn v) (hvb : w0.heap.size ≤ vb) (hks : (k.size : Int) = m.ks) (hvs : (v.size : Int) = m.vs) :
    Calls Try.prog 20 #[.pointer (some ⟨bt, 0, none⟩), .slice a n c, .slice (some ⟨vb, 0, none⟩) vn vc, .int .i64 1] w1 fun e w' => e = .returned (.int .i64 0) ∧ ∃ z, z.data = v ∧ Two1 W m bt k x z w' := by
  obtain ⟨iv, F, h1, h2, h3, h4, h5, h6, h7⟩ := h
  have hr := (rightB_iff _ _ _ _ _).1 h1.1.right
  have hd := h2.drow.lt
  refine (made_upd (c := c) (vc := vc) (fl := 1) h1 q hk hv (made_new h1 q hvb)).mono ?_
  rintro e w' ⟨rfl, ⟨E', F', hU, hm, hF⟩, kk⟩
  have hg : ¬ ((k.size : Int) ≠ m.ks ∨ (v.size : Int) ≠ m.vs ∨ (1 : Int) < 0 ∨ (2 : Int) < 1) := by omega
  have hc : updC m k v 1 [] = 0 := by
    unfold updC addC
    rw [if_neg hg]
    simp only [lookT, List.find?_nil, Option.isSome_none, Bool.false_eq_true, if_false, List.length_nil]
    rw [if_neg (by omega), if_neg hkd, if_neg]
    rintro ⟨-, h⟩
    simp at h
    omega
  unfold UpdE at hU
  rw [if_pos hc, if_neg (by simp [lookT])] at hU
  obtain ⟨eb, ed, ec, hb1, hb2, rfl⟩ := hU
  have hadd : addT m ⟨eb, ed, ec, k, v⟩ [] = [⟨eb, ed, ec, k, v⟩] := by
    unfold addT
    rw [if_pos (by simp; omega)]
    rfl
  rw [hadd] at hm
  have hn : ∀ b, b = x.b ∨ b = x.d → ¬ UpdF k [] F b := by
    rintro b hb (e | ⟨y, e, -⟩)
    · rcases hb with rfl | rfl
      · exact h5 e
      · exact h4 e
    · cases e
  refine ⟨by rw [hc], _, rfl, iv, F', hm, rfl, h2.kept kk (hn _ (.inl rfl)) (hn _ (.inr rfl)), ?_, h7⟩
  rintro (e | e | ⟨y, hy, e⟩)
  · exact h6 e
  · rcases hF _ e with e | e
    · exact h4 e
    · omega
  · rw [List.mem_singleton] at hy
    subst hy
    simp only at e
    omega
theorem two_poke (h : Two1 W m bt k x z w) (v : Value) (j : Nat) : In1 W m bt k z (w.setCell ⟨x.d, j, none⟩ v) := by
  obtain ⟨iv, F, h1, h2, h3, h4, h5⟩ := h
  have kq := Kept.one_set w ⟨x.d, j, none⟩ v
  refine ⟨iv, [z], F, ⟨h1.1.kept kq (fun b hb e => h4 (by rw [← show b = x.d from e]; exact hb)), h1.2.1, ?_⟩, by simp, h2, fun _ => rfl⟩
  exact Kept.none ((h1.2.2.mono (S' := fun b => W.heap.size ≤ b) (fun _ _ e => e.elim)).trans kq (fun b _ e => by rw [show b = x.d from e]; exact h5))
end
end Go.Proofs.Ytalahbmahpgkeaa
