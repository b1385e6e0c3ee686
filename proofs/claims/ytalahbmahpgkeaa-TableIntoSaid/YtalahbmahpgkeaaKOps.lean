/- A table's kind through its interface, whatever it is; what Update makes of the entries. -/
import Derived.Test.YtalahbmahpgkeaaOps
namespace Go.Proofs.Ytalahbmahpgkeaa
set_option linter.unusedVariables false
set_option linter.unusedSimpArgs false
open Go.RowKit Go.MapKept

/-- The interface's method that a value has. -/
structure Meth (T : Nat) (r : Value) (nm : String) (f : Nat) : Prop where
  m : ∀ n w, (method (n + 1) T r nm).run Try.prog w = .ok (f, r) w
  e : ∀ args w, (callFunc f args).run Try.prog w = .ok (.enter f args) w

section
variable {W W' : World} {bt : Nat} {m : TM} {iv : Value} {E E' : List En} {F F' : Nat → Prop} {a va : Option Addr} {n c vn vc : Nat} {k v : ByteArray} {fl : Int}

theorem peek_l (h : Tb W bt m iv E F) (hkd : m.kd = 3) (k : ByteArray) : ∃ p, iv = .iface 82 (.agg #[p]) ∧ (Calls Try.prog 102 #[.agg #[p], .string k] W fun e w' => e = .returned (enV (lookT k E)) ∧ Kept (fun _ => False) W w') ∧ Calls Try.prog 103 #[.agg #[p]] W fun e w' => e = .returned (.int .i64 (E.length : Nat)) ∧ Kept (fun _ => False) W w' := by
  obtain ⟨bl, bm, ls, rfl, hl, hE, rfl⟩ := h.kind.l hkd
  refine ⟨_, rfl, (rec_peek (k := k) hl).mono ?_, (rec_size hl).mono ?_⟩
  · rintro e w' ⟨rfl, h1⟩
    exact ⟨by rw [pairs_val hE], h1⟩
  · rintro e w' ⟨rfl, h1⟩
    exact ⟨by rw [pairs_len hE], h1⟩
theorem peek_h (h : Tb W bt m iv E F) (hkd : m.kd = 2) (k : ByteArray) : ∃ p, iv = .iface 74 (.map p) ∧ (Calls Try.prog 65 #[.map p, .string k] W fun e w' => e = .returned (enV (lookT k E)) ∧ Kept (fun _ => False) W w') ∧ Calls Try.prog 66 #[.map p] W fun e w' => e = .returned (.int .i64 (E.length : Nat)) ∧ Kept (fun _ => False) W w' := by
  obtain ⟨hm, rfl, ht, rfl⟩ := h.kind.h hkd
  refine ⟨_, rfl, (hash_peek (k := k) ht (by rw [hEnts_keys]; exact h.keys)).mono ?_, (hash_size ht).mono ?_⟩
  · rintro e w' ⟨rfl, rfl⟩
    exact ⟨by rw [hEnts_look], .refl _ _⟩
  · rintro e w' ⟨rfl, rfl⟩
    exact ⟨by simp [hEnts], .refl _ _⟩
theorem size_a (h : Tb W bt m iv E F) (hkd : m.kd = 1) : ∃ a l c, iv = .iface 84 (.slice a l c) ∧ Calls Try.prog 121 #[.slice a l c] W fun e w' => e = .returned (.int .i64 (E.length : Nat)) ∧ Kept (fun _ => False) W w' := by
  obtain ⟨sv, rfl, ho, rfl⟩ := h.kind.a hkd
  obtain ⟨a, c, rfl, -, -, -⟩ := own_form ho
  refine ⟨a, E.length, c, rfl, (arr_size (W := W) _ _ _).mono ?_⟩
  rintro e w' ⟨rfl, rfl⟩
  exact ⟨rfl, .refl _ _⟩

/-- What a call of use makes. -/
abbrev UsePost (W : World) (bt : Nat) (m : TM) (iv : Value) (E : List En) (F : Nat → Prop) (k : ByteArray) (e : Ending) (w' : World) : Prop :=
  e = .returned (enV (lookT k E)) ∧ (∃ F', Tb w' bt m iv (useT m k E) F' ∧ ∀ b, F' b → F b) ∧ Kept F W w'

/-- A table's kind, as an interface: its methods, and what they make. -/
structure Ops (bt : Nat) (m : TM) (iv : Value) (T fu fp fa fd fs : Nat) (r : Value) : Prop where
  e : iv = .iface T r
  u : Meth T r "swingbridge/table.use" fu
  p : Meth T r "swingbridge/table.peek" fp
  a : Meth T r "swingbridge/table.add" fa
  d : Meth T r "swingbridge/table.drop" fd
  s : Meth T r "swingbridge/table.size" fs
  ni : ∀ n w, (nilAhead (n + 1) T r "swingbridge/table.add").run Try.prog w = .ok (some false) w
  use : ∀ {W E F k}, Tb W bt m iv E F → (k.size : Int) = m.ks → Calls Try.prog fu #[r, .string k] W (UsePost W bt m iv E F k)
  peek : ∀ {W E F k}, Tb W bt m iv E F → (k.size : Int) = m.ks → Calls Try.prog fp #[r, .string k] W fun e w' => e = .returned (enV (lookT k E)) ∧ Kept (fun _ => False) W w'
  add : ∀ {W E F W0 y}, Tb W bt m iv E F → NewEn W W0 m E y → Kept (fun _ => False) W W0 → Calls Try.prog fa #[r, .pointer (some ⟨y.b, 0, none⟩), .int .i64 m.mx] W0 (AddPost W bt m iv E F y)
  drop : ∀ {W E F k}, Tb W bt m iv E F → (m.kd = 1 ∨ ∃ x, lookT k E = some x) → Calls Try.prog fd #[r, .string k] W (DropPost W bt m iv E F k)
  size : ∀ {W E F}, Tb W bt m iv E F → Calls Try.prog fs #[r] W fun e w' => e = .returned (.int .i64 (E.length : Nat)) ∧ Kept (fun _ => False) W w'

theorem ops_of (h : Tb W bt m iv E F) : ∃ T fu fp fa fd fs r, Ops bt m iv T fu fp fa fd fs r := by
  have hr := (rightB_iff _ _ _ _ _).1 h.right
  rcases (by omega : m.kd = 1 ∨ m.kd = 2 ∨ m.kd = 3) with hkd | hkd | hkd
  · obtain ⟨a, l, c, rfl, -⟩ := size_a h hkd
    refine ⟨84, 122, 120, 117, 119, 121, .slice a l c, rfl, ⟨fun n w => ma_use n a l c w, fun args w => enters_body Try.func122 (by kernel_rfl) rfl args w⟩, ⟨fun n w => ma_peek n a l c w, fun args w => enters_body Try.func120 (by kernel_rfl) rfl args w⟩, ⟨fun n w => ma_add n a l c w, fun args w => enters_body Try.func117 (by kernel_rfl) rfl args w⟩,
      ⟨fun n w => ma_drop n a l c w, fun args w => enters_body Try.func119 (by kernel_rfl) rfl args w⟩, ⟨fun n w => ma_size n a l c w, fun args w => enters_body Try.func121 (by kernel_rfl) rfl args w⟩, fun n w => ma_nil n a l c w, ?_, ?_, ?_, ?_, ?_⟩
    · intro W E F k h hk
      obtain ⟨a2, l2, c2, e2, h2, -⟩ := use_a h hkd hk
      obtain ⟨rfl, rfl, rfl⟩ : a = a2 ∧ l = l2 ∧ c = c2 := by simpa using e2
      refine h2.mono ?_
      rintro e w' ⟨rfl, rfl⟩
      refine ⟨rfl, ⟨F, ?_, fun _ h => h⟩, .refl _ _⟩
      rw [useT_same (by omega)]
      exact h
    · intro W E F k h hk
      obtain ⟨a2, l2, c2, e2, -, h2⟩ := use_a h hkd hk
      obtain ⟨rfl, rfl, rfl⟩ : a = a2 ∧ l = l2 ∧ c = c2 := by simpa using e2
      refine h2.mono ?_
      rintro e w' ⟨rfl, rfl⟩
      exact ⟨rfl, .refl _ _⟩
    · intro W E F W0 y h hn q0
      obtain ⟨a2, l2, c2, e2, h2⟩ := add_a h hkd y q0
      obtain ⟨rfl, rfl, rfl⟩ : a = a2 ∧ l = l2 ∧ c = c2 := by simpa using e2
      exact h2
    · intro W E F k h _
      obtain ⟨a2, l2, c2, e2, h2⟩ := drop_a h hkd k
      obtain ⟨rfl, rfl, rfl⟩ : a = a2 ∧ l = l2 ∧ c = c2 := by simpa using e2
      exact h2
    · intro W E F h
      obtain ⟨a2, l2, c2, e2, h2⟩ := size_a h hkd
      obtain ⟨rfl, rfl, rfl⟩ : a = a2 ∧ l = l2 ∧ c = c2 := by simpa using e2
      exact h2
  · obtain ⟨p, rfl, -⟩ := use_h (k := .empty) h hkd
    refine ⟨74, 67, 65, 62, 64, 66, .map p, rfl, ⟨fun n w => mh_use n p w, fun args w => enters_body Try.func67 (by kernel_rfl) rfl args w⟩, ⟨fun n w => mh_peek n p w, fun args w => enters_body Try.func65 (by kernel_rfl) rfl args w⟩, ⟨fun n w => mh_add n p w, fun args w => enters_body Try.func62 (by kernel_rfl) rfl args w⟩,
      ⟨fun n w => mh_drop n p w, fun args w => enters_body Try.func64 (by kernel_rfl) rfl args w⟩, ⟨fun n w => mh_size n p w, fun args w => enters_body Try.func66 (by kernel_rfl) rfl args w⟩, fun n w => mh_nil n p w, ?_, ?_, ?_, ?_, ?_⟩
    · intro W E F k h hk
      obtain ⟨p2, e2, h2⟩ := use_h (k := k) h hkd
      obtain rfl : p = p2 := by simpa using e2
      refine h2.mono ?_
      rintro e w' ⟨rfl, rfl⟩
      refine ⟨rfl, ⟨F, ?_, fun _ h => h⟩, .refl _ _⟩
      rw [useT_same (by omega)]
      exact h
    · intro W E F k h hk
      obtain ⟨p2, e2, h2, -⟩ := peek_h h hkd k
      obtain rfl : p = p2 := by simpa using e2
      exact h2
    · intro W E F W0 y h hn q0
      obtain ⟨p2, e2, h2⟩ := add_h h hkd hn q0
      obtain rfl : p = p2 := by simpa using e2
      exact h2
    · intro W E F k h hx
      obtain ⟨x, hx⟩ := hx.resolve_left (by omega)
      obtain ⟨p2, e2, h2⟩ := drop_h h hkd hx
      obtain rfl : p = p2 := by simpa using e2
      exact h2
    · intro W E F h
      obtain ⟨p2, e2, -, h2⟩ := peek_h h hkd .empty
      obtain rfl : p = p2 := by simpa using e2
      exact h2
  · obtain ⟨p, rfl, -⟩ := use_l (k := .empty) h hkd
    refine ⟨82, 104, 102, 99, 101, 103, .agg #[p], rfl, ⟨fun n w => ml_use n p w, fun args w => enters_body Try.func104 (by kernel_rfl) rfl args w⟩, ⟨fun n w => ml_peek n p w, fun args w => enters_body Try.func102 (by kernel_rfl) rfl args w⟩, ⟨fun n w => ml_add n p w, fun args w => enters_body Try.func99 (by kernel_rfl) rfl args w⟩,
      ⟨fun n w => ml_drop n p w, fun args w => enters_body Try.func101 (by kernel_rfl) rfl args w⟩, ⟨fun n w => ml_size n p w, fun args w => enters_body Try.func103 (by kernel_rfl) rfl args w⟩, fun n w => ml_nil n p w, ?_, ?_, ?_, ?_, ?_⟩
    · intro W E F k h hk
      obtain ⟨p2, e2, h2⟩ := use_l (k := k) h hkd
      obtain rfl : p = p2 := by simpa using e2
      refine h2.mono ?_
      rintro e w' ⟨rfl, F', h3, h4, k3⟩
      exact ⟨rfl, ⟨F', h3, h4⟩, k3⟩
    · intro W E F k h hk
      obtain ⟨p2, e2, h2, -⟩ := peek_l h hkd k
      obtain rfl : p = p2 := by simpa using e2
      exact h2
    · intro W E F W0 y h hn q0
      obtain ⟨p2, e2, h2⟩ := add_l h hkd hn q0
      obtain rfl : p = p2 := by simpa using e2
      exact h2
    · intro W E F k h hx
      obtain ⟨p2, e2, h2⟩ := drop_l h hkd k
      obtain rfl : p = p2 := by simpa using e2
      exact h2
    · intro W E F h
      obtain ⟨p2, e2, -, h2⟩ := peek_l h hkd .empty
      obtain rfl : p = p2 := by simpa using e2
      exact h2

/-- What Update answers. -/
def updC (m : TM) (k v : ByteArray) (fl : Int) (E : List En) : Int :=
  if (k.size : Int) ≠ m.ks ∨ (v.size : Int) ≠ m.vs ∨ fl < 0 ∨ 2 < fl then 1
  else if (lookT k E).isSome then (if fl = 1 then 4 else 0)
  else if fl = 2 then 3 else addC m E
def setT (k v : ByteArray) (E : List En) : List En := E.map fun x => if x.key = k then { x with data := v } else x
/-- What Update makes of the entries. -/
def UpdE (B : Nat) (m : TM) (k v : ByteArray) (fl : Int) (E E' : List En) : Prop :=
  if updC m k v fl E = 0 then (if (lookT k E).isSome then E' = setT k v (useT m k E) else ∃ eb ed ec, B ≤ eb ∧ B ≤ ed ∧ E' = addT m ⟨eb, ed, ec, k, v⟩ E) else E' = E
/-- What Update may write. -/
def UpdF (k : ByteArray) (E : List En) (F : Nat → Prop) (b : Nat) : Prop := F b ∨ ∃ x, lookT k E = some x ∧ b = x.d

theorem Tb.set (h : Tb W bt m iv E F) {x : En} (hx : x ∈ E) {v : ByteArray} (hv : (v.size : Int) = m.vs) (he : EnAt W' { x with data := v }) (q : Kept (fun b => b = x.d) W W') : Tb W' bt m iv (setT x.key v E) F := by
  have hS : ∀ b, F b → ¬ b = x.d := fun b hb => ((h.apart b hb).2 x hx).2
  have hbt : ¬ bt = x.d := fun e => (h.own x hx).2 e.symm
  have hl := h.row.lt
  have f1 : (setT x.key v E).map (fun z => (z.key, z.b)) = E.map fun z => (z.key, z.b) := by
    unfold setT
    rw [List.map_map]
    refine List.map_congr_left fun z _ => ?_
    simp only [Function.comp]
    split <;> rfl
  have f2 : hEnts (setT x.key v E) = hEnts E := by
    unfold setT hEnts
    rw [List.map_map]
    refine List.map_congr_left fun z _ => ?_
    simp only [Function.comp]
    split <;> rfl
  have f3 : (setT x.key v E).map (fun z => Value.pointer (some ⟨z.b, 0, none⟩)) = E.map fun z => Value.pointer (some ⟨z.b, 0, none⟩) := by
    unfold setT
    rw [List.map_map]
    refine List.map_congr_left fun z _ => ?_
    simp only [Function.comp]
    split <;> rfl
  have f4 : (setT x.key v E).length = E.length := by unfold setT; simp
  have f5 : (setT x.key v E).map (·.key) = E.map (·.key) := by
    unfold setT
    rw [List.map_map]
    refine List.map_congr_left fun z _ => ?_
    simp only [Function.comp]
    split <;> rfl
  have f6 : (setT x.key v E).flatMap (fun z => [z.b, z.d]) = E.flatMap fun z => [z.b, z.d] := by
    unfold setT
    rw [List.flatMap_map]
    refine congrArg (fun f => List.flatMap f E) (funext fun z => ?_)
    split <;> rfl
  have f7 : ∀ z ∈ setT x.key v E, ∃ z0 ∈ E, z.b = z0.b ∧ z.d = z0.d ∧ z.key = z0.key ∧ ((z0.key = x.key ∧ z = { z0 with data := v }) ∨ (z0.key ≠ x.key ∧ z = z0)) := by
    intro z hz
    unfold setT at hz
    obtain ⟨z0, h0, rfl⟩ := List.mem_map.1 hz
    refine ⟨z0, h0, ?_⟩
    by_cases e : z0.key = x.key
    · rw [if_pos e]
      exact ⟨rfl, rfl, rfl, .inl ⟨e, rfl⟩⟩
    · rw [if_neg e]
      exact ⟨rfl, rfl, rfl, .inr ⟨e, rfl⟩⟩
  refine ⟨h.right, h.row.kept q hbt, (q.cell (p := ⟨bt, 0, none⟩) hl hbt).trans h.c0, (q.cell (p := ⟨bt, 1, none⟩) hl hbt).trans h.c1, (q.cell (p := ⟨bt, 2, none⟩) hl hbt).trans h.c2, (q.cell (p := ⟨bt, 3, none⟩) hl hbt).trans h.c3,
    (q.cell (p := ⟨bt, 4, none⟩) hl hbt).trans h.c4, (q.cell (p := ⟨bt, 5, none⟩) hl hbt).trans h.c5, ?_, ?_, ?_, by rw [f5]; exact h.keys, by rw [f6]; exact h.blocks, ?_, ?_, by rw [f4]; exact h.len, fun e => by rw [f5]; exact h.arr e⟩
  · have hk := h.kind.kept q hS
    refine ⟨fun e => ?_, fun e => ?_, fun e => ?_⟩
    · obtain ⟨bl, bm, ls, h1, h2, h3, h4⟩ := hk.l e
      exact ⟨bl, bm, ls, h1, h2, h3.trans f1.symm, h4⟩
    · obtain ⟨hm, h1, h2, h3⟩ := hk.h e
      exact ⟨hm, h1, by rw [f2]; exact h2, h3⟩
    · obtain ⟨sv, h1, h2, h3⟩ := hk.a e
      exact ⟨sv, h1, by rw [f3, f4]; exact h2, h3⟩
  · intro z hz
    obtain ⟨z0, h0, -, -, -, ⟨e, rfl⟩ | ⟨e, rfl⟩⟩ := f7 z hz
    · have : z0 = x := by
        rcases split_en h.keys x.key with ⟨_, e2, _⟩ | ⟨l1, y, l2, e0, e1, e2, _⟩
        · exact (e2 x hx rfl).elim
        · have hu := h.keys
          have key : ∀ y1 ∈ E, ∀ y2 ∈ E, y1.key = y2.key → y1 = y2 := by
            intro y1 h1 y2 h2 e
            obtain ⟨i, hi, e1⟩ := List.getElem_of_mem h1
            obtain ⟨j, hj, e2⟩ := List.getElem_of_mem h2
            have : i = j := by
              refine (List.getElem_inj (h₀ := by simpa using hi) (h₁ := by simpa using hj) hu).1 ?_
              simp [e1, e2, e]
            subst this
            rw [← e1, ← e2]
          exact key _ h0 _ hx e
      subst this
      exact he
    · have hap := (blocks_ne h.blocks hx h0).2 e
      exact (h.en z h0).kept q hap.1 hap.2.1
  · intro z hz
    obtain ⟨z0, h0, -, -, -, ⟨e, rfl⟩ | ⟨e, rfl⟩⟩ := f7 z hz
    · exact ⟨(h.size z0 h0).1, hv⟩
    · exact h.size z h0
  · intro b hb
    refine ⟨(h.apart b hb).1, fun z hz => ?_⟩
    obtain ⟨z0, h0, e1, e2, -⟩ := f7 z hz
    rw [e1, e2]
    exact (h.apart b hb).2 z0 h0
  · intro z hz
    obtain ⟨z0, h0, e1, e2, -⟩ := f7 z hz
    rw [e1, e2]
    exact h.own z0 h0
end
end Go.Proofs.Ytalahbmahpgkeaa
