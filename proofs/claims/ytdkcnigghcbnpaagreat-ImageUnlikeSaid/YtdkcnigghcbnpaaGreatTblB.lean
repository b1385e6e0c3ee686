/- What stands under the walks, part B. -/
import Derived.Test.YtdkcnigghcbnpaaGreatTblA
import Derived.WalkLawsBesides
import Derived.LoopNIn
import Derived.Lib.Hide
import Derived.Laws.BitsAllLaws
/- Arrays of a table: numbers as keys, and what is at them. -/
namespace Go.Proofs.YtdkcnigghcbnpaaGreat
set_option linter.unusedVariables false
set_option linter.unusedSimpArgs false
open Go.RowKit Go.MapKept
theorem ofInt_i64 (a : Nat) (ha : a < 9223372036854775808) : (BitVec.ofInt 64 (a : Int)).toNat = a := by
  rw [BitVec.ofInt_natCast, BitVec.toNat_ofNat]; exact Nat.mod_eq_of_lt (by omega)
theorem i64_or_nat (a b : Nat) (ha : a < 9223372036854775808) (hb : b < 9223372036854775808) : bits .or .i64 (a : Int) (b : Int) = ((a ||| b : Nat) : Int) := by
  have hx : a ||| b < 2 ^ 63 := Nat.or_lt_two_pow (by omega) (by omega)
  show IntKind.i64.wrap ((BitVec.ofInt 64 (a : Int) ||| BitVec.ofInt 64 (b : Int)).toNat : Int) = _
  rw [BitVec.toNat_or, ofInt_i64 a ha, ofInt_i64 b hb, IntKind.wrap_i64]
  omega
theorem or_step (a b : Nat) (ha : a < 16777216) (hb : b < 256) : bits .or .i64 (wrap64 ((a : Int) * 256)) (wrap64 (b : Int)) = ((a * 256 + b : Nat) : Int) := by
  rw [show wrap64 ((a : Int) * 256) = ((a * 256 : Nat) : Int) by unfold wrap64; omega, show wrap64 (b : Int) = (b : Int) by unfold wrap64; omega, i64_or_nat _ _ (by omega) (by omega)]
  have := Nat.two_pow_add_eq_or_of_lt (i := 8) (b := b) (by omega) a
  rw [Nat.mul_comm a 256]
  exact congrArg Int.ofNat this.symm
theorem or_zero (b : Nat) (hb : b < 256) : bits .or .i64 0 (wrap64 (b : Int)) = (b : Int) := by
  have := i64_or_nat 0 b (by omega) (by omega)
  rw [show wrap64 (b : Int) = (b : Int) by unfold wrap64; omega]
  simpa using this
/-- The number of four bytes, the lowest first. -/
def numV (b0 b1 b2 b3 : UInt8) : Nat := ((b3.toNat * 256 + b2.toNat) * 256 + b1.toNat) * 256 + b0.toNat
theorem number_any (b0 b1 b2 b3 : UInt8) (W : World) : Calls Tryz.prog 207 #[.string ⟨#[b0, b1, b2, b3]⟩] W fun e w' => e = .returned (.int .i64 (numV b0 b1 b2 b3 : Nat)) ∧ W = w' := by
  go_enter Tryz.func207, Tryz.ntmps207
  go_wp2
  refine wp_loop_rounds 5 ?_
  rw [rounds_succ]
  go_wp2
  rw [rounds_succ]
  go_wp2
  rw [rounds_succ]
  go_wp2
  rw [rounds_succ]
  go_wp2
  rw [rounds_succ]
  go_wp2
  go_ret
  refine ⟨congrArg (fun z => Ending.returned (.int .i64 z)) ?_, rfl⟩
  have h0 := b0.toNat_lt
  have h1 := b1.toNat_lt
  have h2 := b2.toNat_lt
  have h3 := b3.toNat_lt
  show bits .or .i64 (wrap64 (bits .or .i64 (wrap64 (bits .or .i64 (wrap64 (bits .or .i64 0 (wrap64 (b3.toNat : Int)) * 256)) (wrap64 (b2.toNat : Int)) * 256)) (wrap64 (b1.toNat : Int)) * 256)) (wrap64 (b0.toNat : Int)) = _
  rw [or_zero _ (by omega), or_step _ _ (by omega) (by omega), or_step _ _ (by omega) (by omega), or_step _ _ (by omega) (by omega)]
  rfl

theorem numV_numK (n : Nat) (h : n < 4294967296) : numV (UInt8.ofNat (n % 256)) (UInt8.ofNat (n / 256 % 256)) (UInt8.ofNat (n / 65536 % 256)) (UInt8.ofNat (n / 16777216 % 256)) = n := by
  unfold numV
  simp only [UInt8.toNat_ofNat']
  omega
theorem four_bytes (k : ByteArray) (h : k.size = 4) : ∃ b0 b1 b2 b3, k = ⟨#[b0, b1, b2, b3]⟩ := by
  obtain ⟨⟨l⟩⟩ := k
  have h' : l.length = 4 := h
  match l, h' with
  | [b0, b1, b2, b3], _ => exact ⟨b0, b1, b2, b3, rfl⟩
theorem numK_numV (b0 b1 b2 b3 : UInt8) : numK (numV b0 b1 b2 b3) = ⟨#[b0, b1, b2, b3]⟩ := by
  have h0 := b0.toNat_lt
  have h1 := b1.toNat_lt
  have h2 := b2.toNat_lt
  have h3 := b3.toNat_lt
  unfold numK numV
  have e0 : (((b3.toNat * 256 + b2.toNat) * 256 + b1.toNat) * 256 + b0.toNat) % 256 = b0.toNat := by omega
  have e1 : (((b3.toNat * 256 + b2.toNat) * 256 + b1.toNat) * 256 + b0.toNat) / 256 % 256 = b1.toNat := by omega
  have e2 : (((b3.toNat * 256 + b2.toNat) * 256 + b1.toNat) * 256 + b0.toNat) / 65536 % 256 = b2.toNat := by omega
  have e3 : (((b3.toNat * 256 + b2.toNat) * 256 + b1.toNat) * 256 + b0.toNat) / 16777216 % 256 = b3.toNat := by omega
  rw [e0, e1, e2, e3]
  simp
theorem numK_inj {a b : Nat} (ha : a < 4294967296) (hb : b < 4294967296) (h : numK a = numK b) : a = b := by
  have h1 := numV_numK a ha
  have h2 := numV_numK b hb
  unfold numK at h
  simp only [ByteArray.mk.injEq, Array.mk.injEq, List.cons.injEq, and_true] at h
  obtain ⟨e0, e1, e2, e3⟩ := h
  rw [← h1, ← h2, e0, e1, e2, e3]

theorem conv4 (W : World) (x0 x1 x2 x3 : Int) : (convert 28 9 (.slice (some ⟨W.heap.size, 0, none⟩) 4 4)).run Tryz.prog (W.alloc (.cells #[.int .u8 x0, .int .u8 x1, .int .u8 x2, .int .u8 x3] 5)) =
    .ok (.string (strOfNums [x0, x1, x2, x3])) (W.alloc (.cells #[.int .u8 x0, .int .u8 x1, .int .u8 x2, .int .u8 x3] 5)) := by
  refine run_convert_bytes_arg (P := Tryz.prog) _ 28 5 Tryz.underlying28 Tryz.underlying5 W.heap.size 0 4 4 [x0, x1, x2, x3] rfl (fun i hi => ?_) 9 Tryz.underlying9
  have hrow := heap_alloc_new W (.cells #[.int .u8 x0, .int .u8 x1, .int .u8 x2, .int .u8 x3] 5)
  simp only [World.cell?, hrow, Nat.zero_add]
  rcases (by omega : i = 0 ∨ i = 1 ∨ i = 2 ∨ i = 3) with rfl | rfl | rfl | rfl <;> rfl
theorem numK_nums (n : Nat) (h : n < 1000000) : strOfNums [(n : Int) % 256, (n : Int) / 256 % 256, (n : Int) / 65536, (n : Int) / 16777216] = numK n := by
  unfold strOfNums numK
  simp only [List.map_cons, List.map_nil]
  have e0 : ((n : Int) % 256).toNat = n % 256 := by omega
  have e1 : ((n : Int) / 256 % 256).toNat = n / 256 % 256 := by omega
  have e2 : ((n : Int) / 65536).toNat = n / 65536 % 256 := by omega
  have e3 : ((n : Int) / 16777216).toNat = n / 16777216 % 256 := by omega
  rw [e0, e1, e2, e3]
set_option maxRecDepth 100000 in
/-- numbered: the program's key of a number. -/
theorem numbered_any (n : Nat) (hn : n < 1000000) (W : World) : Calls Tryz.prog 73 #[.int .i64 (n : Int)] W fun e w' => e = .returned (.string (numK n)) ∧ Kept (fun _ => False) W w' := by
  have hcv := fun x0 x1 x2 x3 => conv4 W x0 x1 x2 x3
  have hk := numK_nums n hn
  have HK := Lib.hid hk
  clear hk
  go_enter Tryz.func73, Tryz.ntmps73
  go_wp2
  go_ret
  exact ⟨by rw [← HK.out]; rfl, Kept.one_alloc _ _⟩
set_option maxRecDepth 100000 in
/-- Numbered: the document's key of a number. -/
theorem rnumbered_any (n : Nat) (hn : n < 1000000) (W : World) : Calls Tryz.prog 75 #[.int .i64 (n : Int)] W fun e w' => e = .returned (.string (numK n)) ∧ Kept (fun _ => False) W w' := by
  have hcv := fun x0 x1 x2 x3 => conv4 W x0 x1 x2 x3
  have hk := numK_nums n hn
  have HK := Lib.hid hk
  clear hk
  go_enter Tryz.func75, Tryz.ntmps75
  go_wp2
  go_ret
  refine ⟨?_, Kept.one_alloc _ _⟩
  rw [← HK.out]
  refine congrArg (fun z => Ending.returned (.string (strOfNums z))) ?_
  simp
  try omega

section
variable {W : World} {sv : Value} {bs : List Nat}
def pV (b : Nat) : Value := .pointer (some ⟨b, 0, none⟩)
def aV (o : Option Nat) : Value := match o with | none => .pointer none | some b => pV b
theorem arr_use (h : W.ownsRow 0 41 1 sv bs.length (bs.map pV)) (hl : bs.length ≤ 1024) (b0 b1 b2 b3 : UInt8) : Calls Tryz.prog 205 #[sv, .string ⟨#[b0, b1, b2, b3]⟩] W fun e w' => e = .returned (aV bs[numV b0 b1 b2 b3]?) ∧ W = w' := by
  obtain ⟨a, c, rfl, hg, -, hnc⟩ := own_form h
  have hN : numV b0 b1 b2 b3 < 4294967296 := by
    have h0 := b0.toNat_lt
    have h1 := b1.toNat_lt
    have h2 := b2.toNat_lt
    have h3 := b3.toNat_lt
    unfold numV
    omega
  have hnum := number_any b0 b1 b2 b3 W
  generalize numV b0 b1 b2 b3 = N at hN hnum ⊢
  generalize (⟨#[b0, b1, b2, b3]⟩ : ByteArray) = key at hnum ⊢
  have HNUM := Lib.hid hnum
  clear hnum
  by_cases hlt : N < bs.length
  · obtain ⟨g, rfl⟩ := hg (by omega)
    have hc : W.cell? ⟨g, N, none⟩ = some (.pointer (some ⟨bs[N], 0, none⟩)) := own_cell h (by rw [List.getElem?_map, List.getElem?_eq_getElem hlt]; rfl)
    have hget : aV bs[N]? = .pointer (some ⟨bs[N], 0, none⟩) := by rw [List.getElem?_eq_getElem hlt]; rfl
    rw [hget]
    clear hg hget h
    generalize bs[N] = eb at hc ⊢
    generalize bs.length = L at hl hnc hlt ⊢
    go_enter Tryz.func205, Tryz.ntmps205
    go_wp2_with fail
    refine HNUM.out.mono ?_
    rintro e w1 ⟨rfl, rfl⟩
    go_wp2_with fail
    go_ret
    exact ⟨rfl, rfl⟩
  · have hget : aV bs[N]? = .pointer none := by rw [List.getElem?_eq_none (by omega)]; rfl
    rw [hget]
    generalize bs.length = L at h hl hnc hlt ⊢
    clear hg hget h
    go_enter Tryz.func205, Tryz.ntmps205
    go_wp2_with fail
    refine HNUM.out.mono ?_
    rintro e w1 ⟨rfl, rfl⟩
    go_wp2_with fail
    go_ret
    exact ⟨rfl, rfl⟩
theorem arr_peek (h : W.ownsRow 0 41 1 sv bs.length (bs.map pV)) (hl : bs.length ≤ 1024) (b0 b1 b2 b3 : UInt8) : Calls Tryz.prog 203 #[sv, .string ⟨#[b0, b1, b2, b3]⟩] W fun e w' => e = .returned (aV bs[numV b0 b1 b2 b3]?) ∧ W = w' := by
  have hu := arr_use h hl b0 b1 b2 b3
  generalize (⟨#[b0, b1, b2, b3]⟩ : ByteArray) = key at hu ⊢
  generalize aV bs[numV b0 b1 b2 b3]? = r at hu ⊢
  have HU := Lib.hid hu
  clear hu h
  go_enter Tryz.func203, Tryz.ntmps203
  go_wp2_with fail
  refine HU.out.mono ?_
  rintro e w1 ⟨rfl, rfl⟩
  go_wp2_with fail
  go_ret
  exact ⟨rfl, rfl⟩
theorem arr_add (x y : Value) : Calls Tryz.prog 200 #[sv, x, y] W fun e w' => e = .returned (.int .i64 3) ∧ W = w' := by
  go_enter Tryz.func200, Tryz.ntmps200
  go_wp2_with fail
  go_ret
  exact ⟨rfl, rfl⟩
theorem arr_drop (x : Value) : Calls Tryz.prog 202 #[sv, x] W fun e w' => e = .returned (.int .i64 6) ∧ W = w' := by
  go_enter Tryz.func202, Tryz.ntmps202
  go_wp2_with fail
  go_ret
  exact ⟨rfl, rfl⟩
theorem arr_size (a : Option Addr) (n c : Nat) : Calls Tryz.prog 204 #[.slice a n c] W fun e w' => e = .returned (.int .i64 (n : Nat)) ∧ W = w' := by
  go_enter Tryz.func204, Tryz.ntmps204
  go_wp2_with fail
  go_ret
  exact ⟨rfl, rfl⟩
end
end Go.Proofs.YtdkcnigghcbnpaaGreat

/- Tables, the plain law: entries that are looked up, used, let go; a list's entries beside the table's. -/
namespace Go.Proofs.YtdkcnigghcbnpaaGreat
set_option linter.unusedVariables false
set_option linter.unusedSimpArgs false
open Go.RowKit Go.MapKept

theorem flat_sub {L E : List En} (h : L.Sublist E) : (L.flatMap fun x => [x.b, x.d]).Sublist (E.flatMap fun x => [x.b, x.d]) := by
  induction h with
  | slnil => exact .refl _
  | cons a _ ih =>
    rw [List.flatMap_cons]
    exact ih.trans (List.sublist_append_right _ _)
  | cons_cons a _ ih =>
    rw [List.flatMap_cons, List.flatMap_cons]
    exact List.Sublist.append (.refl _) ih

section
variable {W W' : World} {bt : Nat} {m : TM} {iv : Value} {E E' : List En} {F F' : Nat → Prop}

/-- What a call makes of a table: entries that were there, or are new. -/
theorem Tb.step (h : Tb W bt m iv E F) {S : Nat → Prop} (q : Kept S W W') (hS : ∀ b, S b → F b) (hk : KindAt W' m iv E' F') (hF : ∀ b, F' b → F b ∨ W.heap.size ≤ b)
    (hmem : ∀ x ∈ E', x ∈ E ∨ (W.heap.size ≤ x.b ∧ W.heap.size ≤ x.d ∧ EnAt W' x ∧ (x.key.size : Int) = m.ks ∧ (x.data.size : Int) = m.vs ∧ ∀ b, F' b → b ≠ x.b ∧ b ≠ x.d))
    (hkeys : (E'.map (·.key)).Nodup) (hblocks : (E'.flatMap fun x => [x.b, x.d]).Nodup) (hlen : (E'.length : Int) ≤ m.mx) (harr : m.kd = 1 → E'.map (·.key) = (List.range m.mx.toNat).map numK) : Tb W' bt m iv E' F' := by
  have hbS : ¬ S bt := fun e => (h.apart bt (hS bt e)).1 rfl
  have hl := h.row.lt
  have hxS : ∀ x ∈ E, ¬ S x.b ∧ ¬ S x.d := fun x hx => ⟨fun e => ((h.apart x.b (hS _ e)).2 x hx).1 rfl, fun e => ((h.apart x.d (hS _ e)).2 x hx).2 rfl⟩
  refine ⟨h.right, h.row.kept q hbS, (q.cell (p := ⟨bt, 0, none⟩) hl hbS).trans h.c0, (q.cell (p := ⟨bt, 1, none⟩) hl hbS).trans h.c1, (q.cell (p := ⟨bt, 2, none⟩) hl hbS).trans h.c2, (q.cell (p := ⟨bt, 3, none⟩) hl hbS).trans h.c3,
    (q.cell (p := ⟨bt, 4, none⟩) hl hbS).trans h.c4, (q.cell (p := ⟨bt, 5, none⟩) hl hbS).trans h.c5, hk, ?_, ?_, hkeys, hblocks, ?_, ?_, hlen, harr⟩
  · intro x hx
    rcases hmem x hx with hx | ⟨_, _, he, _⟩
    · exact (h.en x hx).kept q (hxS x hx).1 (hxS x hx).2
    · exact he
  · intro x hx
    rcases hmem x hx with hx | ⟨_, _, _, h1, h2, _⟩
    · exact h.size x hx
    · exact ⟨h1, h2⟩
  · intro b hb
    refine ⟨?_, fun x hx => ?_⟩
    · rcases hF b hb with e | e
      · exact (h.apart b e).1
      · omega
    · rcases hmem x hx with hx | ⟨_, _, _, _, _, hn⟩
      · rcases hF b hb with e | e
        · exact (h.apart b e).2 x hx
        · have h1 := (h.en x hx).row.lt
          have h2 := (h.en x hx).drow.lt
          omega
      · exact hn b hb
  · intro x hx
    rcases hmem x hx with hx | ⟨h1, h2, _⟩
    · exact h.own x hx
    · omega

/-- Entries that were there, in whatever order. -/
theorem Tb.turn (h : Tb W bt m iv E F) {S : Nat → Prop} (q : Kept S W W') (hS : ∀ b, S b → F b) (hk : KindAt W' m iv E' F') (hF : ∀ b, F' b → F b ∨ W.heap.size ≤ b) {L : List En} (hp : E'.Perm L) (hs : L.Sublist E) (harr : m.kd = 1 → E' = E) : Tb W' bt m iv E' F' := by
  refine h.step q hS hk hF (fun x hx => .inl (hs.subset (hp.subset hx))) ?_ ?_ ?_ (fun e => by rw [harr e]; exact h.arr e)
  · exact ((hp.map _).nodup_iff).2 (h.keys.sublist (hs.map _))
  · exact ((hp.flatMap_right _).nodup_iff).2 (h.blocks.sublist (flat_sub hs))
  · have h1 := hp.length_eq
    have h2 := hs.length_le
    have := h.len
    omega

def lookT (k : ByteArray) (E : List En) : Option En := E.find? fun x => decide (x.key = k)
def dropT (k : ByteArray) (E : List En) : List En := E.filter fun x => decide (x.key ≠ k)
def useT (m : TM) (k : ByteArray) (E : List En) : List En := if m.kd = 3 then (match lookT k E with | some x => dropT k E ++ [x] | none => E) else E
def enV (o : Option En) : Value := match o with | none => .pointer none | some x => .pointer (some ⟨x.b, 0, none⟩)

theorem lookT_wrong (h : Tb W bt m iv E F) {k : ByteArray} (hk : (k.size : Int) ≠ m.ks) : lookT k E = none := by
  refine List.find?_eq_none.2 fun x hx => ?_
  have := (h.size x hx).1
  simp only [decide_eq_true_eq]
  rintro rfl
  exact hk this
theorem lookT_some {k : ByteArray} {x : En} (h : lookT k E = some x) : x ∈ E ∧ x.key = k := by
  unfold lookT at h
  exact ⟨List.mem_of_find?_eq_some h, by simpa using List.find?_some h⟩
theorem lookT_none {k : ByteArray} (h : lookT k E = none) : ∀ x ∈ E, x.key ≠ k := by
  unfold lookT at h
  simpa using h
theorem split_en (hn : (E.map (·.key)).Nodup) (k : ByteArray) :
    (lookT k E = none ∧ (∀ x ∈ E, x.key ≠ k) ∧ dropT k E = E) ∨ ∃ l1 x l2, E = l1 ++ x :: l2 ∧ x.key = k ∧ lookT k E = some x ∧ dropT k E = l1 ++ l2 := by
  unfold lookT dropT
  by_cases h : ∃ x ∈ E, x.key = k
  · obtain ⟨x, hx, e⟩ := h
    obtain ⟨l1, l2, rfl⟩ := List.append_of_mem hx
    have h1 : ∀ y ∈ l1, y.key ≠ k := by
      intro y hy e'
      have : y.key ∈ l1.map (·.key) := List.mem_map_of_mem hy
      simp only [List.map_append, List.map_cons] at hn
      grind
    have h2 : ∀ y ∈ l2, y.key ≠ k := by
      intro y hy e'
      have : y.key ∈ l2.map (·.key) := List.mem_map_of_mem hy
      simp only [List.map_append, List.map_cons] at hn
      grind
    refine .inr ⟨l1, x, l2, rfl, e, ?_, ?_⟩
    · rw [List.find?_append, List.find?_eq_none.2 (by simpa using h1)]
      simp [e]
    · rw [List.filter_append, List.filter_cons_of_neg (by simp [e]), List.filter_eq_self.2 (by simpa using h1), List.filter_eq_self.2 (by simpa using h2)]
  · have h' : ∀ x ∈ E, x.key ≠ k := fun x hx e => h ⟨x, hx, e⟩
    exact .inl ⟨List.find?_eq_none.2 (by simpa using h'), h', List.filter_eq_self.2 (by simpa using h')⟩
theorem useT_perm (h : (E.map (·.key)).Nodup) (m : TM) (k : ByteArray) : (useT m k E).Perm E := by
  unfold useT
  split
  · rcases split_en h k with ⟨e1, _, _⟩ | ⟨l1, x, l2, rfl, _, e1, e2⟩
    · rw [e1]
    · rw [e1, e2]
      show (l1 ++ l2 ++ [x]).Perm (l1 ++ x :: l2)
      rw [List.append_assoc]
      exact (List.Perm.append_left _ (List.perm_append_singleton x l2))
  · exact .refl _

/-! ### A list's entries beside the table's -/
abbrev Pairs (ls : List (Ent ByteArray Nat)) (E : List En) : Prop := ls.map (fun x => (x.k, x.v)) = E.map (fun x => (x.key, x.b))
theorem pairs_look {ls : List (Ent ByteArray Nat)} (h : Pairs ls E) (k : ByteArray) : (lookE k ls).map (fun x => (x.k, x.v)) = (lookT k E).map (fun x => (x.key, x.b)) := by
  have h1 : (lookE k ls).map (fun x => (x.k, x.v)) = (ls.map (fun x => (x.k, x.v))).find? fun p => decide (p.1 = k) := by rw [List.find?_map]; rfl
  have h2 : (lookT k E).map (fun x => (x.key, x.b)) = (E.map (fun x => (x.key, x.b))).find? fun p => decide (p.1 = k) := by rw [List.find?_map]; rfl
  rw [h1, h2, h]
theorem pairs_val {ls : List (Ent ByteArray Nat)} (h : Pairs ls E) (k : ByteArray) : SE.vv (lookE k ls) = enV (lookT k E) := by
  have := pairs_look h k
  cases h1 : lookE k ls with
  | none =>
    cases h2 : lookT k E with
    | none => rfl
    | some y => rw [h1, h2] at this; cases this
  | some x =>
    cases h2 : lookT k E with
    | none => rw [h1, h2] at this; cases this
    | some y =>
      rw [h1, h2] at this
      simp only [Option.map_some, Option.some.injEq, Prod.mk.injEq] at this
      simp only [SE.vv, enV, vSE, this.2]
theorem pairs_drop {ls : List (Ent ByteArray Nat)} (h : Pairs ls E) (k : ByteArray) : Pairs (dropE k ls) (dropT k E) := by
  have h1 : (dropE k ls).map (fun x => (x.k, x.v)) = (ls.map (fun x => (x.k, x.v))).filter fun p => decide (p.1 ≠ k) := by rw [List.filter_map]; rfl
  have h2 : (dropT k E).map (fun x => (x.key, x.b)) = (E.map (fun x => (x.key, x.b))).filter fun p => decide (p.1 ≠ k) := by rw [List.filter_map]; rfl
  unfold Pairs
  rw [h1, h2, h]
theorem pairs_len {ls : List (Ent ByteArray Nat)} (h : Pairs ls E) : ls.length = E.length := by simpa using congrArg List.length h
theorem pairs_use {ls : List (Ent ByteArray Nat)} (h : Pairs ls E) (k : ByteArray) (hm : m.kd = 3) : Pairs (useE k ls) (useT m k E) := by
  have hl := pairs_look h k
  have hd := pairs_drop h k
  unfold Pairs useE useT at *
  rw [if_pos hm]
  cases h1 : lookE k ls with
  | none =>
    cases h2 : lookT k E with
    | none => exact h
    | some y => rw [h1, h2] at hl; cases hl
  | some x =>
    cases h2 : lookT k E with
    | none => rw [h1, h2] at hl; cases hl
    | some y =>
      rw [h1, h2] at hl
      simp only [Option.map_some, Option.some.injEq] at hl
      simp only [List.map_append, List.map_cons, List.map_nil, hd, hl]
end
end Go.Proofs.YtdkcnigghcbnpaaGreat

/- A table's kind, met through its interface: which method is called, and what a use makes of the table. -/
namespace Go.Proofs.YtdkcnigghcbnpaaGreat
set_option linter.unusedVariables false
set_option linter.unusedSimpArgs false
open Go.RowKit Go.MapKept

theorem ml_use (n : Nat) (p : Value) (w : World) : (method (n + 1) 166 (.agg #[p]) "swingbridge/table.use").run Tryz.prog w = .ok (187, .agg #[p]) w := by kernel_rfl
theorem ml_peek (n : Nat) (p : Value) (w : World) : (method (n + 1) 166 (.agg #[p]) "swingbridge/table.peek").run Tryz.prog w = .ok (185, .agg #[p]) w := by kernel_rfl
theorem ml_add (n : Nat) (p : Value) (w : World) : (method (n + 1) 166 (.agg #[p]) "swingbridge/table.add").run Tryz.prog w = .ok (182, .agg #[p]) w := by kernel_rfl
theorem ml_drop (n : Nat) (p : Value) (w : World) : (method (n + 1) 166 (.agg #[p]) "swingbridge/table.drop").run Tryz.prog w = .ok (184, .agg #[p]) w := by kernel_rfl
theorem ml_size (n : Nat) (p : Value) (w : World) : (method (n + 1) 166 (.agg #[p]) "swingbridge/table.size").run Tryz.prog w = .ok (186, .agg #[p]) w := by kernel_rfl
theorem ml_nil (n : Nat) (p : Value) (w : World) : (nilAhead (n + 1) 166 (.agg #[p]) "swingbridge/table.add").run Tryz.prog w = .ok (some false) w := by kernel_rfl
theorem mh_use (n : Nat) (p : Option Nat) (w : World) : (method (n + 1) 162 (.map p) "swingbridge/table.use").run Tryz.prog w = .ok (158, .map p) w := by kernel_rfl
theorem mh_peek (n : Nat) (p : Option Nat) (w : World) : (method (n + 1) 162 (.map p) "swingbridge/table.peek").run Tryz.prog w = .ok (156, .map p) w := by kernel_rfl
theorem mh_add (n : Nat) (p : Option Nat) (w : World) : (method (n + 1) 162 (.map p) "swingbridge/table.add").run Tryz.prog w = .ok (153, .map p) w := by kernel_rfl
theorem mh_drop (n : Nat) (p : Option Nat) (w : World) : (method (n + 1) 162 (.map p) "swingbridge/table.drop").run Tryz.prog w = .ok (155, .map p) w := by kernel_rfl
theorem mh_size (n : Nat) (p : Option Nat) (w : World) : (method (n + 1) 162 (.map p) "swingbridge/table.size").run Tryz.prog w = .ok (157, .map p) w := by kernel_rfl
theorem mh_nil (n : Nat) (p : Option Nat) (w : World) : (nilAhead (n + 1) 162 (.map p) "swingbridge/table.add").run Tryz.prog w = .ok (some false) w := by kernel_rfl
theorem ma_use (n : Nat) (a : Option Addr) (l c : Nat) (w : World) : (method (n + 1) 168 (.slice a l c) "swingbridge/table.use").run Tryz.prog w = .ok (205, .slice a l c) w := by kernel_rfl
theorem ma_peek (n : Nat) (a : Option Addr) (l c : Nat) (w : World) : (method (n + 1) 168 (.slice a l c) "swingbridge/table.peek").run Tryz.prog w = .ok (203, .slice a l c) w := by kernel_rfl
theorem ma_add (n : Nat) (a : Option Addr) (l c : Nat) (w : World) : (method (n + 1) 168 (.slice a l c) "swingbridge/table.add").run Tryz.prog w = .ok (200, .slice a l c) w := by kernel_rfl
theorem ma_drop (n : Nat) (a : Option Addr) (l c : Nat) (w : World) : (method (n + 1) 168 (.slice a l c) "swingbridge/table.drop").run Tryz.prog w = .ok (202, .slice a l c) w := by kernel_rfl
theorem ma_size (n : Nat) (a : Option Addr) (l c : Nat) (w : World) : (method (n + 1) 168 (.slice a l c) "swingbridge/table.size").run Tryz.prog w = .ok (204, .slice a l c) w := by kernel_rfl
theorem ma_nil (n : Nat) (a : Option Addr) (l c : Nat) (w : World) : (nilAhead (n + 1) 168 (.slice a l c) "swingbridge/table.add").run Tryz.prog w = .ok (some false) w := by kernel_rfl

section
variable {W W' : World} {bt : Nat} {m : TM} {iv : Value} {E : List En} {F : Nat → Prop} {a : Option Addr} {n c : Nat} {k : ByteArray}

/-- A use of a key: what the interface's method makes of the table, by kinds. -/
theorem use_l (h : Tb W bt m iv E F) (hkd : m.kd = 3) : ∃ p, iv = .iface 166 (.agg #[p]) ∧ Calls Tryz.prog 187 #[.agg #[p], .string k] W fun e w' => e = .returned (enV (lookT k E)) ∧ ∃ F', Tb w' bt m iv (useT m k E) F' ∧ (∀ b, F' b → F b) ∧ Kept F W w' := by
  obtain ⟨bl, bm, ls, rfl, hl, hE, rfl⟩ := h.kind.l hkd
  refine ⟨_, rfl, (rec_use (k := k) hl).mono ?_⟩
  rintro e w' ⟨rfl, h1, k1⟩
  refine ⟨by rw [pairs_val hE], Lfp bl bm (useE k ls), ?_, fun b hb => fp_use hb, k1⟩
  refine h.turn k1 (fun _ e => e) ⟨fun _ => ⟨bl, bm, useE k ls, rfl, h1, pairs_use hE k hkd, rfl⟩, fun e => by omega, fun e => by omega⟩ (fun b hb => .inl (fp_use hb)) (useT_perm h.keys m k) (List.Sublist.refl _) (fun e => by omega)
theorem hEnts_look (k : ByteArray) (E : List En) : hV (lookE k (hEnts E)) = enV (lookT k E) := by
  have h1 : lookE k (hEnts E) = (lookT k E).map fun x => ⟨x.b, x.key, ()⟩ := by unfold lookE hEnts lookT; rw [List.find?_map]; rfl
  rw [h1]
  cases lookT k E <;> rfl
theorem hEnts_keys (E : List En) : (hEnts E).map (·.k) = E.map (·.key) := by simp [hEnts]
theorem use_h (h : Tb W bt m iv E F) (hkd : m.kd = 2) : ∃ p, iv = .iface 162 (.map p) ∧ Calls Tryz.prog 158 #[.map p, .string k] W fun e w' => e = .returned (enV (lookT k E)) ∧ W = w' := by
  obtain ⟨hm, rfl, ht, rfl⟩ := h.kind.h hkd
  refine ⟨_, rfl, (hash_use (k := k) ht (by rw [hEnts_keys]; exact h.keys)).mono ?_⟩
  rintro e w' ⟨rfl, rfl⟩
  exact ⟨by rw [hEnts_look], rfl⟩
theorem arr_look (h : Tb W bt m iv E F) (hkd : m.kd = 1) (b0 b1 b2 b3 : UInt8) : aV (E.map (·.b))[numV b0 b1 b2 b3]? = enV (lookT ⟨#[b0, b1, b2, b3]⟩ E) := by
  have hr := (rightB_iff _ _ _ _ _).1 h.right
  have ha := h.arr hkd
  have hlen : E.length = m.mx.toNat := by simpa using congrArg List.length ha
  have hN : numV b0 b1 b2 b3 < 4294967296 := by
    have h0 := b0.toNat_lt
    have h1 := b1.toNat_lt
    have h2 := b2.toNat_lt
    have h3 := b3.toNat_lt
    unfold numV
    omega
  rw [← numK_numV]
  generalize numV b0 b1 b2 b3 = N at hN ⊢
  have hat : ∀ i x, E[i]? = some x → x.key = numK i := by
    intro i x hx
    have h1 : (E.map (·.key))[i]? = some x.key := by rw [List.getElem?_map, hx]; rfl
    rw [ha, List.getElem?_map] at h1
    obtain ⟨j, hj, e⟩ := Option.map_eq_some_iff.1 h1
    have := List.getElem?_range (i := i) (n := m.mx.toNat) (by rw [← hlen]; exact (List.getElem?_eq_some_iff.1 hx).1)
    rw [this] at hj
    cases hj
    exact e.symm
  by_cases hlt : N < E.length
  · have hx : E[N]? = some E[N] := List.getElem?_eq_getElem hlt
    have hk := hat N _ hx
    rw [List.getElem?_map, hx]
    rcases split_en h.keys (numK N) with ⟨_, e2, _⟩ | ⟨l1, x, l2, e0, e1, e2, _⟩
    · exact (e2 _ (List.getElem_mem hlt) hk).elim
    · rw [e2]
      have hxm : x ∈ E := by rw [e0]; simp
      have : E[N] = x := by
        obtain ⟨i, hi, e⟩ := List.getElem_of_mem hxm
        have h1 := hat i x (by rw [List.getElem?_eq_getElem hi, e])
        rw [e1] at h1
        have := numK_inj (by omega) (by omega) h1
        subst this
        exact e
      rw [this]
      rfl
  · rw [List.getElem?_eq_none (by simpa using hlt)]
    have : lookT (numK N) E = none := by
      refine List.find?_eq_none.2 fun x hx => ?_
      simp only [decide_eq_true_eq]
      intro e
      obtain ⟨i, hi, e'⟩ := List.getElem_of_mem hx
      have h1 := hat i x (by rw [List.getElem?_eq_getElem hi, e'])
      rw [e] at h1
      have := numK_inj (by omega) (by omega) h1
      omega
    rw [this]
    rfl
theorem use_a (h : Tb W bt m iv E F) (hkd : m.kd = 1) (hk : (k.size : Int) = m.ks) : ∃ a l c, iv = .iface 168 (.slice a l c) ∧ Calls Tryz.prog 205 #[.slice a l c, .string k] W (fun e w' => e = .returned (enV (lookT k E)) ∧ W = w') ∧ Calls Tryz.prog 203 #[.slice a l c, .string k] W (fun e w' => e = .returned (enV (lookT k E)) ∧ W = w') := by
  have hr := (rightB_iff _ _ _ _ _).1 h.right
  obtain ⟨sv, rfl, ho, rfl⟩ := h.kind.a hkd
  obtain ⟨a, c, rfl, -, -, -⟩ := own_form ho
  have hl := h.len
  obtain ⟨b0, b1, b2, b3, rfl⟩ := four_bytes k (by omega)
  have hlen : (E.map (·.b)).length = E.length := by simp
  have hmap : (E.map (·.b)).map pV = E.map fun x => .pointer (some ⟨x.b, 0, none⟩) := by rw [List.map_map]; rfl
  rw [← hmap, ← hlen] at ho
  refine ⟨a, E.length, c, rfl, ?_, ?_⟩
  · have := arr_use ho (by omega) b0 b1 b2 b3
    rw [arr_look h hkd, hlen] at this
    exact this
  · have := arr_peek ho (by omega) b0 b1 b2 b3
    rw [arr_look h hkd, hlen] at this
    exact this
end
end Go.Proofs.YtdkcnigghcbnpaaGreat
