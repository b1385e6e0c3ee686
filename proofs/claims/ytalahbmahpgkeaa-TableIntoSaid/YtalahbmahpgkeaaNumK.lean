/- Arrays of a table: numbers as keys, and what is at them. -/
import Derived.Test.YtalahbmahpgkeaaTbl
import Derived.WalkLawsBesides
import Derived.LoopNIn
import Derived.Lib.Hide
import Derived.Laws.BitsAllLaws
namespace Go.Proofs.Ytalahbmahpgkeaa
set_option linter.unusedVariables false
set_option linter.unusedSimpArgs false
open Go.RowKit Go.MapKept
theorem ofInt_i64 (a : Nat) (ha : a < 9223372036854775808) : (BitVec.ofInt 64 (a : Int)).toNat = a := by
  rw [BitVec.ofInt_natCast, BitVec.toNat_ofNat]; exact Nat.mod_eq_of_lt (by omega)
theorem i64_or_nat (a b : Nat) (ha : a < 9223372036854775808) (hb : b < 9223372036854775808) : bits .or .i64 (a : Int) (b : Int) = ((a ||| b : Nat) : Int) := by
  have hx : a ||| b < 2 ^ 63 := Nat.or_lt_two_pow (by omega) (by omega)
  show IntKind.i64.wrap ((BitVec.ofInt 64 (a : Int) ||| BitVec.ofInt 64 (b : Int)).toNat : Int) = _
  rw [BitVec.toNat_or, ofInt_i64 a ha, ofInt_i64 b hb, IntKind.wrap_i64]
  omega
theorem or_step (a b : Nat) (ha : a < 16777216) (hb : b < 256) : bits .or .i64 (wrap64 ((a : Int) * 256)) (wrap64 (b : Int)) = ((a * 256 + b : Nat) : Int) := by
  rw [show wrap64 ((a : Int) * 256) = ((a * 256 : Nat) : Int) by unfold wrap64; omega, show wrap64 (b : Int) = (b : Int) by unfold wrap64; omega, i64_or_nat _ _ (by omega) (by omega)]
  have := Nat.two_pow_add_eq_or_of_lt (i := 8) (b := b) (by omega) a
  rw [Nat.mul_comm a 256]
  exact congrArg Int.ofNat this.symm
theorem or_zero (b : Nat) (hb : b < 256) : bits .or .i64 0 (wrap64 (b : Int)) = (b : Int) := by
  have := i64_or_nat 0 b (by omega) (by omega)
  rw [show wrap64 (b : Int) = (b : Int) by unfold wrap64; omega]
  simpa using this
/-- The number of four bytes, the lowest first. -/
def numV (b0 b1 b2 b3 : UInt8) : Nat := ((b3.toNat * 256 + b2.toNat) * 256 + b1.toNat) * 256 + b0.toNat
theorem number_any (b0 b1 b2 b3 : UInt8) (W : World) : Calls Try.prog 124 #[.string ⟨#[b0, b1, b2, b3]⟩] W fun e w' => e = .returned (.int .i64 (numV b0 b1 b2 b3 : Nat)) ∧ W = w' := by
  go_enter Try.func124, Try.ntmps124
  go_wp2
  refine wp_loop_rounds 5 ?_
  rw [rounds_succ]
  go_wp2
  rw [rounds_succ]
  go_wp2
  rw [rounds_succ]
  go_wp2
  rw [rounds_succ]
  go_wp2
  rw [rounds_succ]
  go_wp2
  go_ret
  refine ⟨congrArg (fun z => Ending.returned (.int .i64 z)) ?_, rfl⟩
  have h0 := b0.toNat_lt
  have h1 := b1.toNat_lt
  have h2 := b2.toNat_lt
  have h3 := b3.toNat_lt
  show bits .or .i64 (wrap64 (bits .or .i64 (wrap64 (bits .or .i64 (wrap64 (bits .or .i64 0 (wrap64 (b3.toNat : Int)) * 256)) (wrap64 (b2.toNat : Int)) * 256)) (wrap64 (b1.toNat : Int)) * 256)) (wrap64 (b0.toNat : Int)) = _
  rw [or_zero _ (by omega), or_step _ _ (by omega) (by omega), or_step _ _ (by omega) (by omega), or_step _ _ (by omega) (by omega)]
  rfl

theorem numV_numK (n : Nat) (h : n < 4294967296) : numV (UInt8.ofNat (n % 256)) (UInt8.ofNat (n / 256 % 256)) (UInt8.ofNat (n / 65536 % 256)) (UInt8.ofNat (n / 16777216 % 256)) = n := by
  unfold numV
  simp only [UInt8.toNat_ofNat']
  omega
theorem four_bytes (k : ByteArray) (h : k.size = 4) : ∃ b0 b1 b2 b3, k = ⟨#[b0, b1, b2, b3]⟩ := by
  obtain ⟨⟨l⟩⟩ := k
  have h' : l.length = 4 := h
  match l, h' with
  | [b0, b1, b2, b3], _ => exact ⟨b0, b1, b2, b3, rfl⟩
theorem numK_numV (b0 b1 b2 b3 : UInt8) : numK (numV b0 b1 b2 b3) = ⟨#[b0, b1, b2, b3]⟩ := by
  have h0 := b0.toNat_lt
  have h1 := b1.toNat_lt
  have h2 := b2.toNat_lt
  have h3 := b3.toNat_lt
  unfold numK numV
  have e0 : (((b3.toNat * 256 + b2.toNat) * 256 + b1.toNat) * 256 + b0.toNat) % 256 = b0.toNat := by omega
  have e1 : (((b3.toNat * 256 + b2.toNat) * 256 + b1.toNat) * 256 + b0.toNat) / 256 % 256 = b1.toNat := by omega
  have e2 : (((b3.toNat * 256 + b2.toNat) * 256 + b1.toNat) * 256 + b0.toNat) / 65536 % 256 = b2.toNat := by omega
  have e3 : (((b3.toNat * 256 + b2.toNat) * 256 + b1.toNat) * 256 + b0.toNat) / 16777216 % 256 = b3.toNat := by omega
  rw [e0, e1, e2, e3]
  simp
theorem numK_inj {a b : Nat} (ha : a < 4294967296) (hb : b < 4294967296) (h : numK a = numK b) : a = b := by
  have h1 := numV_numK a ha
  have h2 := numV_numK b hb
  unfold numK at h
  simp only [ByteArray.mk.injEq, Array.mk.injEq, List.cons.injEq, and_true] at h
  obtain ⟨e0, e1, e2, e3⟩ := h
  rw [← h1, ← h2, e0, e1, e2, e3]

theorem conv4 (W : World) (x0 x1 x2 x3 : Int) : (convert 34 9 (.slice (some ⟨W.heap.size, 0, none⟩) 4 4)).run Try.prog (W.alloc (.cells #[.int .u8 x0, .int .u8 x1, .int .u8 x2, .int .u8 x3] 5)) =
    .ok (.string (strOfNums [x0, x1, x2, x3])) (W.alloc (.cells #[.int .u8 x0, .int .u8 x1, .int .u8 x2, .int .u8 x3] 5)) := by
  refine run_convert_bytes_arg (P := Try.prog) _ 34 5 Try.underlying34 Try.underlying5 W.heap.size 0 4 4 [x0, x1, x2, x3] rfl (fun i hi => ?_) 9 Try.underlying9
  have hrow := heap_alloc_new W (.cells #[.int .u8 x0, .int .u8 x1, .int .u8 x2, .int .u8 x3] 5)
  simp only [World.cell?, hrow, Nat.zero_add]
  rcases (by omega : i = 0 ∨ i = 1 ∨ i = 2 ∨ i = 3) with rfl | rfl | rfl | rfl <;> rfl
theorem numK_nums (n : Nat) (h : n < 1000000) : strOfNums [(n : Int) % 256, (n : Int) / 256 % 256, (n : Int) / 65536, (n : Int) / 16777216] = numK n := by
  unfold strOfNums numK
  simp only [List.map_cons, List.map_nil]
  have e0 : ((n : Int) % 256).toNat = n % 256 := by omega
  have e1 : ((n : Int) / 256 % 256).toNat = n / 256 % 256 := by omega
  have e2 : ((n : Int) / 65536).toNat = n / 65536 % 256 := by omega
  have e3 : ((n : Int) / 16777216).toNat = n / 16777216 % 256 := by omega
  rw [e0, e1, e2, e3]
set_option maxRecDepth 100000 in
/-- numbered: the program's key of a number. -/
theorem numbered_any (n : Nat) (hn : n < 1000000) (W : World) : Calls Try.prog 33 #[.int .i64 (n : Int)] W fun e w' => e = .returned (.string (numK n)) ∧ Kept (fun _ => False) W w' := by
  have hcv := fun x0 x1 x2 x3 => conv4 W x0 x1 x2 x3
  have hk := numK_nums n hn
  have HK := Lib.hid hk
  clear hk
  go_enter Try.func33, Try.ntmps33
  go_wp2
  go_ret
  exact ⟨by rw [← HK.out]; rfl, Kept.one_alloc _ _⟩
set_option maxRecDepth 100000 in
/-- Numbered: the document's key of a number. -/
theorem rnumbered_any (n : Nat) (hn : n < 1000000) (W : World) : Calls Try.prog 21 #[.int .i64 (n : Int)] W fun e w' => e = .returned (.string (numK n)) ∧ Kept (fun _ => False) W w' := by
  have hcv := fun x0 x1 x2 x3 => conv4 W x0 x1 x2 x3
  have hk := numK_nums n hn
  have HK := Lib.hid hk
  clear hk
  go_enter Try.func21, Try.ntmps21
  go_wp2
  go_ret
  refine ⟨?_, Kept.one_alloc _ _⟩
  rw [← HK.out]
  refine congrArg (fun z => Ending.returned (.string (strOfNums z))) ?_
  simp
  try omega

section
variable {W : World} {sv : Value} {bs : List Nat}
def pV (b : Nat) : Value := .pointer (some ⟨b, 0, none⟩)
def aV (o : Option Nat) : Value := match o with | none => .pointer none | some b => pV b
theorem arr_use (h : W.ownsRow 0 36 1 sv bs.length (bs.map pV)) (hl : bs.length ≤ 1024) (b0 b1 b2 b3 : UInt8) : Calls Try.prog 122 #[sv, .string ⟨#[b0, b1, b2, b3]⟩] W fun e w' => e = .returned (aV bs[numV b0 b1 b2 b3]?) ∧ W = w' := by
  obtain ⟨a, c, rfl, hg, -, hnc⟩ := own_form h
  have hN : numV b0 b1 b2 b3 < 4294967296 := by
    have h0 := b0.toNat_lt
    have h1 := b1.toNat_lt
    have h2 := b2.toNat_lt
    have h3 := b3.toNat_lt
    unfold numV
    omega
  have hnum := number_any b0 b1 b2 b3 W
  generalize numV b0 b1 b2 b3 = N at hN hnum ⊢
  generalize (⟨#[b0, b1, b2, b3]⟩ : ByteArray) = key at hnum ⊢
  have HNUM := Lib.hid hnum
  clear hnum
  by_cases hlt : N < bs.length
  · obtain ⟨g, rfl⟩ := hg (by omega)
    have hc : W.cell? ⟨g, N, none⟩ = some (.pointer (some ⟨bs[N], 0, none⟩)) := own_cell h (by rw [List.getElem?_map, List.getElem?_eq_getElem hlt]; rfl)
    have hget : aV bs[N]? = .pointer (some ⟨bs[N], 0, none⟩) := by rw [List.getElem?_eq_getElem hlt]; rfl
    rw [hget]
    clear hg hget h
    generalize bs[N] = eb at hc ⊢
    generalize bs.length = L at hl hnc hlt ⊢
    go_enter Try.func122, Try.ntmps122
    go_wp2_with fail
    refine HNUM.out.mono ?_
    rintro e w1 ⟨rfl, rfl⟩
    go_wp2_with fail
    go_ret
    exact ⟨rfl, rfl⟩
  · have hget : aV bs[N]? = .pointer none := by rw [List.getElem?_eq_none (by omega)]; rfl
    rw [hget]
    generalize bs.length = L at h hl hnc hlt ⊢
    clear hg hget h
    go_enter Try.func122, Try.ntmps122
    go_wp2_with fail
    refine HNUM.out.mono ?_
    rintro e w1 ⟨rfl, rfl⟩
    go_wp2_with fail
    go_ret
    exact ⟨rfl, rfl⟩
theorem arr_peek (h : W.ownsRow 0 36 1 sv bs.length (bs.map pV)) (hl : bs.length ≤ 1024) (b0 b1 b2 b3 : UInt8) : Calls Try.prog 120 #[sv, .string ⟨#[b0, b1, b2, b3]⟩] W fun e w' => e = .returned (aV bs[numV b0 b1 b2 b3]?) ∧ W = w' := by
  have hu := arr_use h hl b0 b1 b2 b3
  generalize (⟨#[b0, b1, b2, b3]⟩ : ByteArray) = key at hu ⊢
  generalize aV bs[numV b0 b1 b2 b3]? = r at hu ⊢
  have HU := Lib.hid hu
  clear hu h
  go_enter Try.func120, Try.ntmps120
  go_wp2_with fail
  refine HU.out.mono ?_
  rintro e w1 ⟨rfl, rfl⟩
  go_wp2_with fail
  go_ret
  exact ⟨rfl, rfl⟩
theorem arr_add (x y : Value) : Calls Try.prog 117 #[sv, x, y] W fun e w' => e = .returned (.int .i64 3) ∧ W = w' := by
  go_enter Try.func117, Try.ntmps117
  go_wp2_with fail
  go_ret
  exact ⟨rfl, rfl⟩
theorem arr_drop (x : Value) : Calls Try.prog 119 #[sv, x] W fun e w' => e = .returned (.int .i64 6) ∧ W = w' := by
  go_enter Try.func119, Try.ntmps119
  go_wp2_with fail
  go_ret
  exact ⟨rfl, rfl⟩
theorem arr_size (a : Option Addr) (n c : Nat) : Calls Try.prog 121 #[.slice a n c] W fun e w' => e = .returned (.int .i64 (n : Nat)) ∧ W = w' := by
  go_enter Try.func121, Try.ntmps121
  go_wp2_with fail
  go_ret
  exact ⟨rfl, rfl⟩
end
end Go.Proofs.Ytalahbmahpgkeaa
