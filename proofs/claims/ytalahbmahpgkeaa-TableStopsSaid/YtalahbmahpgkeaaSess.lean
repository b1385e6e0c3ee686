/- A table's keys and values as pairs, and what calls make of them: contracts for whoever has a table of his own. -/
import Derived.Test.YtalahbmahpgkeaaSmall
import Derived.Lib.ConvBytes
namespace Go.Proofs.Ytalahbmahpgkeaa
set_option linter.unusedVariables false
set_option linter.unusedSimpArgs false
open Go.RowKit Go.MapKept

/-! ### Pairs -/
abbrev Pr := ByteArray × ByteArray
def kvs (E : List En) : List Pr := E.map fun x => (x.key, x.data)
def lookP (k : ByteArray) (P : List Pr) : Option ByteArray := (P.find? fun p => decide (p.1 = k)).map (·.2)
def dropP (k : ByteArray) (P : List Pr) : List Pr := P.filter fun p => decide (p.1 ≠ k)
def useP (m : TM) (k : ByteArray) (P : List Pr) : List Pr := if m.kd = 3 then (match lookP k P with | some d => dropP k P ++ [(k, d)] | none => P) else P
def setP (k v : ByteArray) (P : List Pr) : List Pr := P.map fun p => if p.1 = k then (p.1, v) else p
def addP (m : TM) (y : Pr) (P : List Pr) : List Pr := if (P.length : Int) + 1 ≤ m.mx then P ++ [y] else P.tail ++ [y]
def addCP (m : TM) (P : List Pr) : Int := if m.kd = 1 then 3 else if m.kd = 2 ∧ m.mx ≤ (P.length : Int) then 5 else 0
def codeP (m : TM) (k v : ByteArray) (fl : Int) (P : List Pr) : Int :=
  if (k.size : Int) ≠ m.ks ∨ (v.size : Int) ≠ m.vs ∨ fl < 0 ∨ 2 < fl then 1
  else if (lookP k P).isSome then (if fl = 1 then 4 else 0)
  else if fl = 2 then 3 else addCP m P
def updP (m : TM) (k v : ByteArray) (fl : Int) (P : List Pr) : List Pr :=
  if codeP m k v fl P = 0 then (if (lookP k P).isSome then setP k v (useP m k P) else addP m (k, v) P) else P
def delCP (m : TM) (k : ByteArray) (P : List Pr) : Int := if (k.size : Int) ≠ m.ks then 1 else if m.kd = 1 then 6 else if (lookP k P).isSome then 0 else 3
def delP (m : TM) (k : ByteArray) (P : List Pr) : List Pr := if m.kd = 1 then P else dropP k P

section
variable {E E' : List En} {m : TM} {k v : ByteArray} {fl : Int}
theorem kvs_look (k : ByteArray) (E : List En) : lookP k (kvs E) = (lookT k E).map (·.data) := by
  unfold lookP kvs lookT
  rw [List.find?_map, Option.map_map]
  rfl
theorem kvs_some (k : ByteArray) (E : List En) : (lookP k (kvs E)).isSome = (lookT k E).isSome := by rw [kvs_look, Option.isSome_map]
theorem kvs_len (E : List En) : (kvs E).length = E.length := by simp [kvs]
theorem kvs_drop (k : ByteArray) (E : List En) : dropP k (kvs E) = kvs (dropT k E) := by
  unfold dropP kvs dropT
  rw [List.filter_map]
  rfl
theorem kvs_use (m : TM) (k : ByteArray) (E : List En) : useP m k (kvs E) = kvs (useT m k E) := by
  unfold useP useT
  split
  · rw [kvs_look]
    cases h : lookT k E with
    | none => rfl
    | some x =>
      show dropP k (kvs E) ++ [(k, x.data)] = kvs (dropT k E ++ [x])
      rw [kvs_drop, ← (lookT_some h).2]
      simp [kvs]
  · rfl
theorem kvs_set (k v : ByteArray) (E : List En) : setP k v (kvs E) = kvs (setT k v E) := by
  unfold setP kvs setT
  rw [List.map_map, List.map_map]
  refine List.map_congr_left fun x _ => ?_
  simp only [Function.comp]
  split <;> rfl
theorem kvs_add (m : TM) (y : En) (E : List En) : addP m (y.key, y.data) (kvs E) = kvs (addT m y E) := by
  unfold addP addT
  rw [kvs_len]
  split
  · simp [kvs]
  · simp [kvs]
theorem kvs_code (m : TM) (k v : ByteArray) (fl : Int) (E : List En) : codeP m k v fl (kvs E) = updC m k v fl E := by
  unfold codeP updC addCP addC
  rw [kvs_some, kvs_len]
theorem kvs_upd {B : Nat} (h : UpdE B m k v fl E E') : kvs E' = updP m k v fl (kvs E) := by
  unfold UpdE at h
  unfold updP
  rw [kvs_code, kvs_some]
  split
  · rename_i h0
    rw [if_pos h0] at h
    split
    · rename_i h1
      rw [if_pos h1] at h
      rw [h, kvs_use, kvs_set]
    · rename_i h1
      rw [if_neg h1] at h
      obtain ⟨eb, ed, ec, -, -, rfl⟩ := h
      exact (kvs_add m ⟨eb, ed, ec, k, v⟩ E).symm
  · rename_i h0
    rw [if_neg h0] at h
    rw [h]
theorem kvs_delC (m : TM) (k : ByteArray) (E : List En) : delCP m k (kvs E) = delC m k E := by
  unfold delCP delC
  rw [kvs_some]
theorem kvs_del (m : TM) (k : ByteArray) (E : List En) : delP m k (kvs E) = kvs (delE m k E) := by
  unfold delP delE
  rw [kvs_drop]
  split <;> rfl
theorem lookP_mem {P : List Pr} {d : ByteArray} (h : lookP k P = some d) : (k, d) ∈ P := by
  unfold lookP at h
  obtain ⟨p, hp, rfl⟩ := Option.map_eq_some_iff.1 h
  have h1 := List.mem_of_find?_eq_some hp
  have h2 : p.1 = k := by simpa using List.find?_some hp
  rw [← h2]
  exact h1
theorem lookP_none {P : List Pr} (h : ∀ p ∈ P, p.1 ≠ k) : lookP k P = none := by
  unfold lookP
  rw [List.find?_eq_none.2 (by simpa using h)]
  rfl
end

/-! ### A box with a map -/
structure MBox (W : World) (q : Nat) (m : TM) : Prop where
  row : RowAt W q 5
  c0 : W.cell? ⟨q, 0, none⟩ = some (.string m.nm)
  c1 : W.cell? ⟨q, 1, none⟩ = some (.int .i64 m.kd)
  c2 : W.cell? ⟨q, 2, none⟩ = some (.int .i64 m.ks)
  c3 : W.cell? ⟨q, 3, none⟩ = some (.int .i64 m.vs)
  c4 : W.cell? ⟨q, 4, none⟩ = some (.int .i64 m.mx)
theorem MBox.kept {S : Nat → Prop} {W W' : World} {q : Nat} {m : TM} (h : MBox W q m) (k : Kept S W W') (hS : ¬ S q) : MBox W' q m :=
  ⟨h.row.kept k hS, (k.cell (p := ⟨q, 0, none⟩) h.row.lt hS).trans h.c0, (k.cell (p := ⟨q, 1, none⟩) h.row.lt hS).trans h.c1, (k.cell (p := ⟨q, 2, none⟩) h.row.lt hS).trans h.c2, (k.cell (p := ⟨q, 3, none⟩) h.row.lt hS).trans h.c3, (k.cell (p := ⟨q, 4, none⟩) h.row.lt hS).trans h.c4⟩
theorem MBox.new (w : World) (m : TM) (t : TypeId) : MBox (w.alloc (.cells #[.string m.nm, .int .i64 m.kd, .int .i64 m.ks, .int .i64 m.vs, .int .i64 m.mx] t)) w.heap.size m := by
  have hz := heap_alloc_new w (.cells #[.string m.nm, .int .i64 m.kd, .int .i64 m.ks, .int .i64 m.vs, .int .i64 m.mx] t)
  exact ⟨RowAt.new w _ t, by simp only [World.cell?, hz]; rfl, by simp only [World.cell?, hz]; rfl, by simp only [World.cell?, hz]; rfl, by simp only [World.cell?, hz]; rfl, by simp only [World.cell?, hz]; rfl⟩

/-- '[]byte(s)'. -/
theorem bytes_made (w : World) (s : ByteArray) : ∃ c w5, (convert 9 34 (.string s)).run Try.prog w = .ok (.slice (some ⟨w.heap.size, 0, none⟩) s.size c) w5 ∧ Kept (fun _ => False) w w5 ∧ BytesAt w5 (some ⟨w.heap.size, 0, none⟩) s.size s ∧ w5.heap.size = w.heap.size + 1 := by
  refine ⟨_, _, Go.Lib.run_convert_string_bytes w 9 34 5 s Try.underlying9 Try.underlying34 Try.underlying5, ?_, ?_, Go.Lib.bytesWorld_size _ _ _⟩
  · exact ⟨rfl, rfl, rfl, by rw [Go.Lib.bytesWorld_size]; omega, fun k hk _ => Go.Lib.bytesWorld_at_old _ _ _ k hk⟩
  · refine ⟨rfl, fun _ ad e => by cases e; exact ⟨_, _, rfl⟩, fun i hi => ⟨w.heap.size, 0, rfl, by rw [Go.Lib.bytesWorld_size]; omega, ?_⟩⟩
    rw [Nat.zero_add, Go.Lib.bytesWorld_cell _ _ _ _ hi]
    have hi' : i < s.data.toList.length := by simpa using hi
    simp [nums, List.getD_eq_getElem?_getD, List.getElem?_eq_getElem hi']

/-! ### A table of one's own -/
def Ses (m : TM) (bt : Nat) (P : List Pr) (Fp : Nat → Prop) (w : World) : Prop := ∃ iv E F, Tb w bt m iv E F ∧ kvs E = P ∧ ∀ b, Tfp bt E F b → Fp b
section
variable {W w w0 w1 : World} {m : TM} {bt : Nat} {P : List Pr} {Fp Fq : Nat → Prop} {a va : Option Addr} {n c vn vc : Nat} {k v : ByteArray} {fl : Int}
theorem Ses.kept {S : Nat → Prop} (h : Ses m bt P Fp w) (q : Kept S w w1) (hS : ∀ b, Fp b → ¬ S b) : Ses m bt P Fp w1 := by
  obtain ⟨iv, E, F, h1, h2, h3⟩ := h
  exact ⟨iv, E, F, h1.kept q (fun b hb => hS b (h3 b hb)), h2, h3⟩
theorem Ses.keep (h : Ses m bt P Fp w) (q : Kept (fun _ => False) w w1) : Ses m bt P Fp w1 := h.kept q (fun _ _ e => e)
theorem Ses.mono (h : Ses m bt P Fp w) (hF : ∀ b, Fp b → Fq b) : Ses m bt P Fq w := by
  obtain ⟨iv, E, F, h1, h2, h3⟩ := h
  exact ⟨iv, E, F, h1, h2, fun b hb => hF b (h3 b hb)⟩
theorem Ses.bound (h : Ses m bt P Fp w) : Ses m bt P (fun b => Fp b ∧ b < w.heap.size) w := by
  obtain ⟨iv, E, F, h1, h2, h3⟩ := h
  exact ⟨iv, E, F, h1, h2, fun b hb => ⟨h3 b hb, h1.lt b hb⟩⟩
theorem Ses.right (h : Ses m bt P Fp w) : m.right = true := by obtain ⟨_, _, _, h1, _⟩ := h; exact h1.right
theorem Ses.len (h : Ses m bt P Fp w) : (P.length : Int) ≤ m.mx := by
  obtain ⟨_, E, _, h1, rfl, _⟩ := h
  rw [kvs_len]
  exact h1.len
theorem Ses.nodup (h : Ses m bt P Fp w) : (P.map (·.1)).Nodup := by
  obtain ⟨_, E, _, h1, rfl, _⟩ := h
  have := h1.keys
  unfold kvs
  rw [List.map_map]
  exact this
theorem Ses.sizes (h : Ses m bt P Fp w) : ∀ p ∈ P, (p.1.size : Int) = m.ks ∧ (p.2.size : Int) = m.vs := by
  obtain ⟨_, E, _, h1, rfl, _⟩ := h
  intro p hp
  obtain ⟨x, hx, rfl⟩ := List.mem_map.1 hp
  exact h1.size x hx
theorem Ses.arr (h : Ses m bt P Fp w) (h1 : m.kd = 1) : P.map (·.1) = (List.range m.mx.toNat).map numK := by
  obtain ⟨_, E, _, h2, rfl, _⟩ := h
  have := h2.arr h1
  unfold kvs
  rw [List.map_map]
  exact this

/-- What a new table has. -/
def newP (m : TM) : List Pr := if m.kd = 1 then (List.range m.mx.toNat).map fun i => (numK i, zeroB m.vs.toNat) else []
theorem ses_new (hr : m.right = true) (W : World) : Calls Try.prog 14 #[m.v] W fun e w' => ∃ bt, e = .returned (.tuple #[.pointer (some ⟨bt, 0, none⟩), .int .i64 0]) ∧ Ses m bt (newP m) (fun b => W.heap.size ≤ b ∧ b < w'.heap.size) w' ∧ Kept (fun _ => False) W w' := by
  refine (new_any (W := W) m).mono ?_
  rintro e w' (⟨hf, -⟩ | ⟨-, bt, iv, F, E, rfl, hE, hm⟩)
  · rw [hr] at hf
    cases hf
  refine ⟨bt, rfl, ⟨iv, E, F, hm.1, ?_, fun b hb => ⟨hm.2.1 b hb, hm.1.lt b hb⟩⟩, hm.2.2⟩
  unfold newP
  split
  · rename_i h1
    have h2 := hm.1.arr h1
    have h3 := hE.2 h1
    unfold kvs
    rw [show (fun i => (numK i, zeroB m.vs.toNat)) = (fun k => (k, zeroB m.vs.toNat)) ∘ numK from rfl, ← List.map_map, ← h2, List.map_map]
    refine List.map_congr_left fun x hx => ?_
    simp only [Function.comp, h3 x hx]
  · rename_i h1
    rw [hE.1 h1]
    rfl

/-- Update. -/
theorem ses_upd (h : Ses m bt P Fp w0) (q : Kept (fun _ => False) w0 w1) (hk : BytesAt w1 a n k) (hv : BytesAt w1 va vn v) (hva : ∀ b o, va = some ⟨b, o, none⟩ → ¬ Fp b ∨ w0.heap.size ≤ b) :
    Calls Try.prog 20 #[.pointer (some ⟨bt, 0, none⟩), .slice a n c, .slice va vn vc, .int .i64 fl] w1 fun e w' => e = .returned (.int .i64 (codeP m k v fl P)) ∧ Ses m bt (updP m k v fl P) (fun b => Fp b ∨ (w0.heap.size ≤ b ∧ b < w'.heap.size)) w' ∧ Kept Fp w1 w' := by
  obtain ⟨iv, E, F, hT, rfl, hF⟩ := h
  have hz := q.size
  have hT1 := hT.kept q (fun _ _ e => e)
  refine (update_any (c := c) (vc := vc) (fl := fl) hT1 hk hv (fun b o e hf => ?_)).mono ?_
  · rcases hva b o e with h | h
    · exact h (hF b (.inr (.inl hf)))
    · have := hT.kind.lt hT.right b hf
      omega
  · rintro e w' ⟨rfl, ⟨E', F', hU, hT', hF'⟩, kk⟩
    refine ⟨by rw [kvs_code], ⟨iv, E', F', hT', kvs_upd hU, ?_⟩, kk.mono fun b _ e => ?_⟩
    · intro b hb
      have hlt := hT'.lt b hb
      rcases hb with rfl | hf | ⟨x, hx, hb⟩
      · exact .inl (hF _ (.inl rfl))
      · rcases hF' b hf with e | e
        · exact .inl (hF _ (.inr (.inl e)))
        · exact .inr ⟨by omega, hlt⟩
      · rcases updE_blocks hU hx with ⟨z, hz', e1, e2⟩ | ⟨e1, e2⟩
        · exact .inl (hF b (.inr (.inr ⟨z, hz', by rw [← e1, ← e2]; exact hb⟩)))
        · exact .inr ⟨by rcases hb with rfl | rfl <;> omega, hlt⟩
    · rcases e with e | ⟨x, hx, rfl⟩
      · exact hF _ (.inr (.inl e))
      · exact hF _ (.inr (.inr ⟨x, (lookT_some hx).1, .inr rfl⟩))

/-- What Lookup finds. -/
def Found (w : World) (Fp : Nat → Prop) (k : ByteArray) (o : Option ByteArray) (v : Value) : Prop :=
  match o with
  | none => v = .pointer none
  | some d => ∃ x : En, v = .pointer (some ⟨x.b, 0, none⟩) ∧ EnAt w x ∧ x.key = k ∧ x.data = d ∧ x.b ≠ x.d ∧ Fp x.b ∧ Fp x.d
theorem ses_look (h : Ses m bt P Fp w0) (q : Kept (fun _ => False) w0 w1) (hk : BytesAt w1 a n k) :
    Calls Try.prog 22 #[.pointer (some ⟨bt, 0, none⟩), .slice a n c] w1 fun e w' => ∃ x, e = .returned (.tuple #[x, .bool (lookP k P).isSome]) ∧ Ses m bt (useP m k P) Fp w' ∧ Found w' Fp k (lookP k P) x ∧ Kept Fp w1 w' := by
  obtain ⟨iv, E, F, hT, rfl, hF⟩ := h
  have hT1 := hT.kept q (fun _ _ e => e)
  refine (lookup_any (c := c) hT1 hk).mono ?_
  rintro e w' ⟨rfl, ⟨F', h2, h3⟩, kk⟩
  refine ⟨_, by rw [kvs_some], ⟨iv, useT m k E, F', h2, (kvs_use m k E).symm, ?_⟩, ?_, kk.mono fun b _ e => hF _ (.inr (.inl e))⟩
  · rintro b (rfl | hf | ⟨x, hx, hb⟩)
    · exact hF _ (.inl rfl)
    · exact hF _ (.inr (.inl (h3 b hf)))
    · exact hF b (.inr (.inr ⟨x, useT_mem hx, hb⟩))
  · rw [kvs_look]
    cases hx : lookT k E with
    | none => exact rfl
    | some x =>
      obtain ⟨hxm, hxk⟩ := lookT_some hx
      exact ⟨x, rfl, h2.en x ((useT_perm hT.keys m k).mem_iff.2 hxm), hxk, rfl, (blocks_ne hT.blocks hxm hxm).1, hF _ (.inr (.inr ⟨x, hxm, .inl rfl⟩)), hF _ (.inr (.inr ⟨x, hxm, .inr rfl⟩))⟩

theorem delE_mem {E : List En} {x : En} (h : x ∈ delE m k E) : x ∈ E := by
  unfold delE at h
  split at h
  · exact h
  · exact (List.mem_filter.1 h).1
theorem ses_del (h : Ses m bt P Fp w0) (q : Kept (fun _ => False) w0 w1) (hk : BytesAt w1 a n k) :
    Calls Try.prog 23 #[.pointer (some ⟨bt, 0, none⟩), .slice a n c] w1 fun e w' => e = .returned (.int .i64 (delCP m k P)) ∧ Ses m bt (delP m k P) Fp w' ∧ Kept Fp w1 w' := by
  obtain ⟨iv, E, F, hT, rfl, hF⟩ := h
  have hT1 := hT.kept q (fun _ _ e => e)
  refine (delete_any (c := c) hT1 hk).mono ?_
  rintro e w' ⟨rfl, ⟨F', h2, h3⟩, kk⟩
  refine ⟨by rw [kvs_delC], ⟨iv, delE m k E, F', h2, (kvs_del m k E).symm, ?_⟩, kk.mono fun b _ e => hF _ (.inr (.inl e))⟩
  rintro b (rfl | hf | ⟨x, hx, hb⟩)
  · exact hF _ (.inl rfl)
  · exact hF _ (.inr (.inl (h3 b hf)))
  · exact hF b (.inr (.inr ⟨x, delE_mem hx, hb⟩))
theorem ses_len (h : Ses m bt P Fp w) : Calls Try.prog 17 #[.pointer (some ⟨bt, 0, none⟩)] w fun e w' => e = .returned (.int .i64 (P.length : Nat)) ∧ Kept (fun _ => False) w w' := by
  obtain ⟨iv, E, F, hT, rfl, hF⟩ := h
  rw [kvs_len]
  exact len_any hT
theorem ses_map (h : Ses m bt P Fp w) : Calls Try.prog 18 #[.pointer (some ⟨bt, 0, none⟩)] w fun e w' => e = .returned m.v ∧ Kept (fun _ => False) w w' := by
  obtain ⟨iv, E, F, hT, rfl, hF⟩ := h
  exact map_any hT
theorem Ses.lt (h : Ses m bt P Fp w) : bt < w.heap.size := by
  obtain ⟨iv, E, F, hT, rfl, hF⟩ := h
  exact hT.row.lt

/-! ### One table alone, behind a world -/
def One (W0 : World) (m : TM) (bt : Nat) (P : List Pr) (w : World) : Prop := Ses m bt P (fun b => W0.heap.size ≤ b) w ∧ Kept (fun _ => False) W0 w
theorem One.keep {W0 : World} (h : One W0 m bt P w) (q : Kept (fun _ => False) w w1) : One W0 m bt P w1 := ⟨h.1.keep q, h.2.trans q (fun _ _ e => e)⟩
theorem one_new (hr : m.right = true) (W : World) : Calls Try.prog 14 #[m.v] W fun e w' => ∃ bt, e = .returned (.tuple #[.pointer (some ⟨bt, 0, none⟩), .int .i64 0]) ∧ One W m bt (newP m) w' := by
  refine (ses_new hr W).mono ?_
  rintro e w' ⟨bt, rfl, h, k⟩
  exact ⟨bt, rfl, h.mono fun b h => h.1, k⟩
theorem one_kept {W0 w w' : World} (h : Kept (fun _ => False) W0 w) (k : Kept (fun b => W0.heap.size ≤ b) w w') : Kept (fun _ => False) W0 w' :=
  Kept.none ((h.mono (S' := fun b => W0.heap.size ≤ b) (fun _ _ e => e.elim)).trans k (fun _ _ e => e))
theorem one_upd {W0 : World} (h : One W0 m bt P w0) (q : Kept (fun _ => False) w0 w1) (hk : BytesAt w1 a n k) (hv : BytesAt w1 va vn v) (hva : ∀ b o, va = some ⟨b, o, none⟩ → b < W0.heap.size ∨ w0.heap.size ≤ b) :
    Calls Try.prog 20 #[.pointer (some ⟨bt, 0, none⟩), .slice a n c, .slice va vn vc, .int .i64 fl] w1 fun e w' => e = .returned (.int .i64 (codeP m k v fl P)) ∧ One W0 m bt (updP m k v fl P) w' := by
  refine (ses_upd (c := c) (vc := vc) (fl := fl) h.1 q hk hv (fun b o e => (hva b o e).imp (fun h => by omega) id)).mono ?_
  rintro e w' ⟨rfl, h1, k1⟩
  refine ⟨rfl, h1.mono ?_, one_kept (h.2.trans q (fun _ _ e => e)) k1⟩
  have := h.2.size
  rintro b (hb | hb) <;> omega
theorem one_look {W0 : World} (h : One W0 m bt P w0) (q : Kept (fun _ => False) w0 w1) (hk : BytesAt w1 a n k) :
    Calls Try.prog 22 #[.pointer (some ⟨bt, 0, none⟩), .slice a n c] w1 fun e w' => ∃ x, e = .returned (.tuple #[x, .bool (lookP k P).isSome]) ∧ One W0 m bt (useP m k P) w' ∧ Found w' (fun b => W0.heap.size ≤ b) k (lookP k P) x := by
  refine (ses_look (c := c) h.1 q hk).mono ?_
  rintro e w' ⟨x, rfl, h1, h2, k1⟩
  exact ⟨x, rfl, ⟨h1, one_kept (h.2.trans q (fun _ _ e => e)) k1⟩, h2⟩
theorem one_del {W0 : World} (h : One W0 m bt P w0) (q : Kept (fun _ => False) w0 w1) (hk : BytesAt w1 a n k) :
    Calls Try.prog 23 #[.pointer (some ⟨bt, 0, none⟩), .slice a n c] w1 fun e w' => e = .returned (.int .i64 (delCP m k P)) ∧ One W0 m bt (delP m k P) w' := by
  refine (ses_del (c := c) h.1 q hk).mono ?_
  rintro e w' ⟨rfl, h1, k1⟩
  exact ⟨rfl, h1, one_kept (h.2.trans q (fun _ _ e => e)) k1⟩
theorem one_len {W0 : World} (h : One W0 m bt P w) : Calls Try.prog 17 #[.pointer (some ⟨bt, 0, none⟩)] w fun e w' => e = .returned (.int .i64 (P.length : Nat)) ∧ Kept (fun _ => False) w w' ∧ One W0 m bt P w' := by
  refine (ses_len h.1).mono ?_
  rintro e w' ⟨rfl, k1⟩
  exact ⟨rfl, k1, h.keep k1⟩

/-- One byte. -/
def b1 (n : Nat) : ByteArray := ⟨#[UInt8.ofNat n]⟩
theorem bytes_one (w : World) (t : TypeId) (u : Nat) (hu : u < 256) (a : Nat) (ha : a = w.heap.size) : BytesAt (w.alloc (.cells #[.int .u8 (u : Int)] t)) (some ⟨a, 0, none⟩) 1 (b1 u) :=
  bytes_new w (b1 u) t ha rfl (by
    have : (UInt8.ofNat u).toNat = u := by simp; omega
    simp [byteVs, nums, b1, this])
/-- Update with a key that was just made, and one byte. -/
theorem one_put1 {W0 : World} (h : One W0 m bt P w0) (q : Kept (fun _ => False) w0 w1) (hk : BytesAt w1 a n k) (u : Nat) (hu : u < 256) (t : TypeId) (vb : Nat) (hvb : vb = w1.heap.size) :
    Calls Try.prog 20 #[.pointer (some ⟨bt, 0, none⟩), .slice a n c, .slice (some ⟨vb, 0, none⟩) 1 1, .int .i64 fl] (w1.alloc (.cells #[.int .u8 (u : Int)] t)) fun e w' => e = .returned (.int .i64 (codeP m k (b1 u) fl P)) ∧ One W0 m bt (updP m k (b1 u) fl P) w' := by
  have kq := Kept.one_alloc w1 (.cells #[.int .u8 (u : Int)] t)
  have hz := q.size
  refine one_upd h (q.trans kq (fun _ _ e => e)) (hk.kept kq (fun _ _ _ e => e)) (bytes_one w1 t u hu vb hvb) (fun b o e => .inr ?_)
  cases e
  omega
end
end Go.Proofs.Ytalahbmahpgkeaa
