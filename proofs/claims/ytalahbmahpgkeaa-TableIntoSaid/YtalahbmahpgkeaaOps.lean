/- What add and drop make of a table, by kinds. -/
import Derived.Test.YtalahbmahpgkeaaUpdWalk
namespace Go.Proofs.Ytalahbmahpgkeaa
set_option linter.unusedVariables false
set_option linter.unusedSimpArgs false
open Go.RowKit Go.MapKept

theorem blocks_ne {E : List En} (hn : (E.flatMap fun x => [x.b, x.d]).Nodup) {x z : En} (hx : x ∈ E) (hz : z ∈ E) : x.b ≠ x.d ∧ (z.key ≠ x.key → z.b ≠ x.d ∧ z.d ≠ x.d ∧ z.b ≠ x.b ∧ z.d ≠ x.b) := by
  induction E generalizing x z with
  | nil => cases hx
  | cons a E ih =>
    rw [List.flatMap_cons, List.nodup_append] at hn
    obtain ⟨h1, h2, h3⟩ := hn
    have hab : a.b ≠ a.d := by simpa using h1
    have hin : ∀ y ∈ E, y.b ∈ E.flatMap (fun x => [x.b, x.d]) ∧ y.d ∈ E.flatMap (fun x => [x.b, x.d]) := fun y hy => ⟨List.mem_flatMap.2 ⟨y, hy, by simp⟩, List.mem_flatMap.2 ⟨y, hy, by simp⟩⟩
    have hap : ∀ y ∈ E, a.b ≠ y.b ∧ a.b ≠ y.d ∧ a.d ≠ y.b ∧ a.d ≠ y.d := fun y hy => ⟨h3 _ (by simp) _ (hin y hy).1, h3 _ (by simp) _ (hin y hy).2, h3 _ (by simp) _ (hin y hy).1, h3 _ (by simp) _ (hin y hy).2⟩
    rcases List.mem_cons.1 hx with e | hx'
    · subst e
      refine ⟨hab, fun hk => ?_⟩
      rcases List.mem_cons.1 hz with e | hz'
      · exact (hk (by rw [e])).elim
      · have := hap z hz'
        exact ⟨fun e => this.2.2.1 e.symm, fun e => this.2.2.2 e.symm, fun e => this.1 e.symm, fun e => this.2.1 e.symm⟩
    · rcases List.mem_cons.1 hz with e | hz'
      · subst e
        refine ⟨(ih h2 hx' hx').1, fun _ => ?_⟩
        have := hap x hx'
        exact ⟨this.2.1, this.2.2.2, this.1, this.2.2.1⟩
      · exact ih h2 hx' hz'

def addT (m : TM) (y : En) (E : List En) : List En := if (E.length : Int) + 1 ≤ m.mx then E ++ [y] else E.tail ++ [y]
def addC (m : TM) (E : List En) : Int := if m.kd = 1 then 3 else if m.kd = 2 ∧ m.mx ≤ (E.length : Int) then 5 else 0
def addE (m : TM) (y : En) (E : List En) : List En := if addC m E = 0 then addT m y E else E
def dropC (m : TM) : Int := if m.kd = 1 then 6 else 0
def dropM (m : TM) (k : ByteArray) (E : List En) : List En := if m.kd = 1 then E else dropT k E

section
variable {W W' : World} {bt : Nat} {m : TM} {iv : Value} {E E' : List En} {F F' : Nat → Prop}

/-- Whoever is a new entry of a table. -/
structure NewEn (W W' : World) (m : TM) (E : List En) (y : En) : Prop where
  at' : EnAt W' y
  b : W.heap.size ≤ y.b
  d : W.heap.size ≤ y.d
  ne : y.d ≠ y.b
  ks : (y.key.size : Int) = m.ks
  vs : (y.data.size : Int) = m.vs
  new : lookT y.key E = none

theorem Tb.added (h : Tb W bt m iv E F) {W0 : World} {y : En} (hn : NewEn W W0 m E y) (q0 : Kept (fun _ => False) W W0) (q : Kept F W0 W') {E1 : List En} (hs : E1.Sublist E) (hk : KindAt W' m iv (E1 ++ [y]) F') (hF : ∀ b, F' b → F b ∨ W0.heap.size ≤ b)
    (hlen : (E1.length : Int) + 1 ≤ m.mx) (h1 : m.kd ≠ 1) : Tb W' bt m iv (E1 ++ [y]) F' := by
  have hFl := h.kind.lt h.right
  have hyb := hn.at'.row.lt
  have hyd := hn.at'.drow.lt
  have hz := q0.size
  have hb := hn.b
  have hd := hn.d
  have hyF : ¬ F y.b ∧ ¬ F y.d := ⟨fun e => by have := hFl _ e; omega, fun e => by have := hFl _ e; omega⟩
  have hny := lookT_none hn.new
  refine h.step ((q0.mono (fun _ _ e => e.elim)).trans q (fun _ _ e => e)) (fun _ e => e) hk ?_ ?_ ?_ ?_ ?_ (fun e => (h1 e).elim)
  · intro b hb'
    rcases hF b hb' with e | e
    · exact .inl e
    · exact .inr (by omega)
  · intro x hx
    rcases List.mem_append.1 hx with hx | hx
    · exact .inl (hs.subset hx)
    · rw [List.mem_singleton] at hx
      subst hx
      refine .inr ⟨hb, hd, hn.at'.kept q hyF.1 hyF.2, hn.ks, hn.vs, fun b hb' => ?_⟩
      rcases hF b hb' with e | e
      · have := hFl _ e
        exact ⟨by omega, by omega⟩
      · exact ⟨by omega, by omega⟩
  · rw [List.map_append, List.nodup_append]
    refine ⟨h.keys.sublist (hs.map _), by simp, ?_⟩
    intro a ha b hb' e
    obtain ⟨x, hx, rfl⟩ := List.mem_map.1 ha
    simp only [List.map_cons, List.map_nil, List.mem_singleton] at hb'
    exact hny x (hs.subset hx) (e.trans hb')
  · rw [List.flatMap_append, List.nodup_append]
    refine ⟨h.blocks.sublist (flat_sub hs), by simpa using fun e => hn.ne e.symm, ?_⟩
    intro a ha b hb' e
    obtain ⟨x, hx, ha⟩ := List.mem_flatMap.1 ha
    have hxe := h.en x (hs.subset hx)
    have l1 := hxe.row.lt
    have l2 := hxe.drow.lt
    simp only [List.flatMap_cons, List.flatMap_nil, List.append_nil, List.mem_cons, List.not_mem_nil, or_false] at ha hb'
    omega
  · rw [List.length_append]
    simpa using hlen

theorem addT_form (h : Tb W bt m iv E F) (y : En) : ∃ E1, addT m y E = E1 ++ [y] ∧ E1.Sublist E ∧ (E1.length : Int) + 1 ≤ m.mx := by
  have hr := (rightB_iff _ _ _ _ _).1 h.right
  have := h.len
  unfold addT
  split
  · exact ⟨E, rfl, .refl _, by assumption⟩
  · refine ⟨E.tail, rfl, List.tail_sublist _, ?_⟩
    rw [List.length_tail]
    omega
theorem pairs_put {ls : List (Ent ByteArray Nat)} (h : Pairs ls E) {y : En} (hn : lookT y.key E = none) (nb : Nat) (m : TM) : Pairs (putE m.mx nb y.key y.b ls) (addT m y E) := by
  have hl := pairs_look h y.key
  have hlen := pairs_len h
  unfold Pairs at *
  rw [hn] at hl
  have hl : lookE y.key ls = none := by
    cases e : lookE y.key ls with
    | none => rfl
    | some x => rw [e] at hl; cases hl
  unfold putE addT
  rw [hl, hlen]
  simp only []
  split
  · rw [List.map_append, List.map_append, h]
    rfl
  · rw [List.map_append, List.map_append, List.map_tail, List.map_tail, h]
    rfl

/-- What a call of add makes. -/
abbrev AddPost (W : World) (bt : Nat) (m : TM) (iv : Value) (E : List En) (F : Nat → Prop) (y : En) (e : Ending) (w' : World) : Prop :=
  e = .returned (.int .i64 (addC m E)) ∧ (∃ F', Tb w' bt m iv (addE m y E) F' ∧ ∀ b, F' b → F b ∨ W.heap.size ≤ b) ∧ Kept F W w'

theorem add_l (h : Tb W bt m iv E F) (hkd : m.kd = 3) {W0 : World} {y : En} (hn : NewEn W W0 m E y) (q0 : Kept (fun _ => False) W W0) : ∃ p, iv = .iface 82 (.agg #[p]) ∧ Calls Try.prog 99 #[.agg #[p], .pointer (some ⟨y.b, 0, none⟩), .int .i64 m.mx] W0 (AddPost W bt m iv E F y) := by
  have hr := (rightB_iff _ _ _ _ _).1 h.right
  obtain ⟨bl, bm, ls, rfl, hl, hE, rfl⟩ := (h.kept q0 (fun _ _ e => e)).kind.l hkd
  refine ⟨_, rfl, (rec_add (k := y.key) hl (by omega) hn.at'.key hn.at'.row.lt _).mono ?_⟩
  rintro e w' ⟨rfl, ⟨nb, hnb, h1⟩, k1⟩
  obtain ⟨E1, e1, e2, e3⟩ := addT_form h y
  have hc : addC m E = 0 := by
    unfold addC
    rw [if_neg (by omega), if_neg (by omega)]
  have hfp : ∀ b, Lfp bl bm (putE m.mx nb y.key y.b ls) b → Lfp bl bm ls b ∨ W0.heap.size ≤ b := fun b hb => (fp_put hb).imp id (fun e => by rw [e]; exact hnb)
  refine ⟨by rw [hc], ⟨Lfp bl bm (putE m.mx nb y.key y.b ls), ?_, fun b hb => (hfp b hb).imp id (fun e => Nat.le_trans q0.size e)⟩, (q0.mono (fun _ _ e => e.elim)).trans k1 (fun _ _ e => e)⟩
  unfold addE
  rw [if_pos hc, e1]
  refine h.added hn q0 k1 e2 ⟨fun _ => ⟨bl, bm, _, rfl, h1, ?_, rfl⟩, fun e => by omega, fun e => by omega⟩ hfp e3 (by omega)
  rw [← e1]
  exact pairs_put hE hn.new nb m

theorem add_h (h : Tb W bt m iv E F) (hkd : m.kd = 2) {W0 : World} {y : En} (hn : NewEn W W0 m E y) (q0 : Kept (fun _ => False) W W0) : ∃ p, iv = .iface 74 (.map p) ∧ Calls Try.prog 62 #[.map p, .pointer (some ⟨y.b, 0, none⟩), .int .i64 m.mx] W0 (AddPost W bt m iv E F y) := by
  have hr := (rightB_iff _ _ _ _ _).1 h.right
  have h0 := h.kept q0 (fun _ _ e => e)
  obtain ⟨hm, rfl, ht, rfl⟩ := h0.kind.h hkd
  have hl : (hEnts E).length = E.length := by simp [hEnts]
  by_cases hf : m.mx ≤ (E.length : Int)
  · refine ⟨_, rfl, (hash_add_full ht (by rw [hl]; exact hf) y.b).mono ?_⟩
    rintro e w' ⟨rfl, rfl⟩
    have hc : addC m E = 5 := by
      unfold addC
      rw [if_neg (by omega), if_pos ⟨hkd, hf⟩]
    refine ⟨by rw [hc], ⟨_, ?_, fun b hb => .inl hb⟩, q0.mono (fun _ _ e => e.elim)⟩
    unfold addE
    rw [if_neg (by omega)]
    exact h0
  · refine ⟨_, rfl, (hash_add_room ht (by rw [hl]; exact hf) hn.at'.key ?_).mono ?_⟩
    · intro z hz
      obtain ⟨x, hx, rfl⟩ := List.mem_map.1 hz
      exact lookT_none hn.new x hx
    rintro e w' ⟨rfl, h1, k1⟩
    have hc : addC m E = 0 := by
      unfold addC
      rw [if_neg (by omega), if_neg (by omega)]
    have ha : addT m y E = E ++ [y] := by
      unfold addT
      rw [if_pos (by omega)]
    refine ⟨by rw [hc], ⟨fun b => b = hm, ?_, fun b hb => .inl hb⟩, (q0.mono (fun _ _ e => e.elim)).trans k1 (fun _ _ e => e)⟩
    unfold addE
    rw [if_pos hc, ha]
    refine h.added hn q0 k1 (.refl _) ⟨fun e => by omega, fun _ => ⟨hm, rfl, ?_, rfl⟩, fun e => by omega⟩ (fun b hb => .inl hb) (by omega) (by omega)
    unfold hEnts at *
    rw [List.map_append]
    exact h1

theorem add_a (h : Tb W bt m iv E F) (hkd : m.kd = 1) {W0 : World} (y : En) (q0 : Kept (fun _ => False) W W0) : ∃ a l c, iv = .iface 84 (.slice a l c) ∧ Calls Try.prog 117 #[.slice a l c, .pointer (some ⟨y.b, 0, none⟩), .int .i64 m.mx] W0 (AddPost W bt m iv E F y) := by
  have h0 := h.kept q0 (fun _ _ e => e)
  obtain ⟨sv, rfl, ho, rfl⟩ := h.kind.a hkd
  obtain ⟨a, c, rfl, -, -, -⟩ := own_form ho
  refine ⟨a, E.length, c, rfl, (arr_add (W := W0) (sv := .slice a E.length c) _ _).mono ?_⟩
  rintro e w' ⟨rfl, rfl⟩
  have hc : addC m E = 3 := by
    unfold addC
    rw [if_pos hkd]
  refine ⟨by rw [hc], ⟨_, ?_, fun b hb => .inl hb⟩, q0.mono (fun _ _ e => e.elim)⟩
  unfold addE
  rw [if_neg (by omega)]
  exact h0

/-- What a call of drop makes. -/
abbrev DropPost (W : World) (bt : Nat) (m : TM) (iv : Value) (E : List En) (F : Nat → Prop) (k : ByteArray) (e : Ending) (w' : World) : Prop :=
  e = .returned (.int .i64 (dropC m)) ∧ (∃ F', Tb w' bt m iv (dropM m k E) F' ∧ ∀ b, F' b → F b) ∧ Kept F W w'
theorem drop_l (h : Tb W bt m iv E F) (hkd : m.kd = 3) (k : ByteArray) : ∃ p, iv = .iface 82 (.agg #[p]) ∧ Calls Try.prog 101 #[.agg #[p], .string k] W (DropPost W bt m iv E F k) := by
  obtain ⟨bl, bm, ls, rfl, hl, hE, rfl⟩ := h.kind.l hkd
  refine ⟨_, rfl, (rec_drop (k := k) hl).mono ?_⟩
  rintro e w' ⟨rfl, h1, k1⟩
  have hm : dropM m k E = dropT k E := by unfold dropM; rw [if_neg (by omega)]
  refine ⟨by unfold dropC; rw [if_neg (by omega)], ⟨Lfp bl bm (dropE k ls), ?_, fun b hb => fp_drop hb⟩, k1⟩
  rw [hm]
  exact h.turn k1 (fun _ e => e) ⟨fun _ => ⟨bl, bm, dropE k ls, rfl, h1, pairs_drop hE k, rfl⟩, fun e => by omega, fun e => by omega⟩ (fun b hb => .inl (fp_drop hb)) (.refl _) List.filter_sublist (fun e => by omega)
theorem drop_h (h : Tb W bt m iv E F) (hkd : m.kd = 2) {k : ByteArray} {x : En} (hx : lookT k E = some x) : ∃ p, iv = .iface 74 (.map p) ∧ Calls Try.prog 64 #[.map p, .string k] W (DropPost W bt m iv E F k) := by
  obtain ⟨hm, rfl, ht, rfl⟩ := h.kind.h hkd
  rcases split_en h.keys k with ⟨e1, _, _⟩ | ⟨l1, z, l2, e0, e1, e2, e3⟩
  · rw [hx] at e1
    cases e1
  · have hh : hEnts E = hEnts l1 ++ ⟨z.b, z.key, ()⟩ :: hEnts l2 := by rw [e0]; simp [hEnts]
    have hkeys : ((hEnts l1 ++ ⟨z.b, z.key, ()⟩ :: hEnts l2).map (·.k)).Nodup := by
      rw [← hh, hEnts_keys]
      exact h.keys
    rw [hh] at ht
    have hd := hash_drop_hit ht hkeys
    simp only [e1] at hd
    refine ⟨_, rfl, hd.mono ?_⟩
    rintro e w' ⟨rfl, h1, k1⟩
    have hm' : dropM m k E = dropT k E := by unfold dropM; rw [if_neg (by omega)]
    refine ⟨by unfold dropC; rw [if_neg (by omega)], ⟨fun b => b = hm, ?_, fun b hb => hb⟩, k1⟩
    rw [hm']
    refine h.turn k1 (fun _ e => e) ⟨fun e => by omega, fun _ => ⟨hm, rfl, ?_, rfl⟩, fun e => by omega⟩ (fun b hb => .inl hb) (.refl _) List.filter_sublist (fun e => by omega)
    rw [e3]
    simpa [hEnts] using h1
theorem drop_a (h : Tb W bt m iv E F) (hkd : m.kd = 1) (k : ByteArray) : ∃ a l c, iv = .iface 84 (.slice a l c) ∧ Calls Try.prog 119 #[.slice a l c, .string k] W (DropPost W bt m iv E F k) := by
  have h0 := h
  obtain ⟨sv, rfl, ho, rfl⟩ := h.kind.a hkd
  obtain ⟨a, c, rfl, -, -, -⟩ := own_form ho
  refine ⟨a, E.length, c, rfl, (arr_drop (W := W) (sv := .slice a E.length c) _).mono ?_⟩
  rintro e w' ⟨rfl, rfl⟩
  refine ⟨by unfold dropC; rw [if_pos hkd], ⟨_, ?_, fun b hb => hb⟩, .refl _ _⟩
  unfold dropM
  rw [if_pos hkd]
  exact h0
end
end Go.Proofs.Ytalahbmahpgkeaa
