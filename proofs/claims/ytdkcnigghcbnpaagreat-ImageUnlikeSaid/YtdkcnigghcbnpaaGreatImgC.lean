/- What stands under the walks, part C. -/
import Derived.Test.YtdkcnigghcbnpaaGreatWriteN
import Derived.Laws.BytesArg
import Derived.Shelf.Bytes.SlSmallAll
import Derived.Test.YtdkcnigghcbnpaaGreatHeldQ
/- image's reader: take, number, text. -/
namespace Go.Proofs.YtdkcnigghcbnpaaGreat
set_option linter.unusedVariables false
set_option linter.unusedSimpArgs false
open Go.RowKit Go.MapKept

/-- Bytes at an address, apart from block rb. -/
def ByL (w : World) (rb Bd : Nat) (a : Option Addr) (L : List UInt8) : Prop := ∀ i u, L[i]? = some u → ∃ b o, a = some ⟨b, o, none⟩ ∧ b < Bd ∧ b ≠ rb ∧ w.cell? ⟨b, o + i, none⟩ = some (.int .u8 (u.toNat : Int))
theorem ByL.kept {S : Nat → Prop} {w w' : World} {rb Bd : Nat} {a : Option Addr} {L : List UInt8} (h : ByL w rb Bd a L) (hB : Bd ≤ w.heap.size) (k : Kept S w w') (hS : ∀ b, b < Bd → b ≠ rb → ¬ S b) : ByL w' rb Bd a L := fun i u hu => by
  obtain ⟨b, o, e, hb, hn, hc⟩ := h i u hu
  exact ⟨b, o, e, hb, hn, (k.cell (p := ⟨b, o + i, none⟩) (Nat.lt_of_lt_of_le hb hB) (hS b hb hn)).trans hc⟩
theorem ByL.take {w : World} {rb Bd : Nat} {a : Option Addr} {L : List UInt8} (h : ByL w rb Bd a L) (n : Nat) : ByL w rb Bd a (L.take n) := fun i u hu => by
  rw [List.getElem?_take] at hu
  split at hu
  · exact h i u hu
  · cases hu
theorem ByL.drop {w : World} {rb Bd b o : Nat} {L : List UInt8} (h : ByL w rb Bd (some ⟨b, o, none⟩) L) (n : Nat) : ByL w rb Bd (some ⟨b, o + n, none⟩) (L.drop n) := fun i u hu => by
  rw [List.getElem?_drop] at hu
  obtain ⟨b', o', e, hb, hn, hc⟩ := h (n + i) u hu
  cases e
  exact ⟨b, o + n, rfl, hb, hn, by rw [Nat.add_assoc]; exact hc⟩
theorem ByL.dropM {w : World} {rb Bd : Nat} {a : Option Addr} {L : List UInt8} (h : ByL w rb Bd a L) (n : Nat) : ByL w rb Bd (Option.map (fun x => x.add n) a) (L.drop n) := fun i u hu => by
  rw [List.getElem?_drop] at hu
  obtain ⟨b, o, rfl, hb, hn, hc⟩ := h (n + i) u hu
  exact ⟨b, o + n, by rw [Option.map_some, Addr.add_lit], hb, hn, by rw [Nat.add_assoc]; exact hc⟩
/-- A reader at block rb: what is left. -/
structure RdAt (w : World) (rb Bd : Nat) (L : List UInt8) : Prop where
  row : RowAt w rb 1
  le : Bd ≤ w.heap.size
  c : ∃ a cp, w.cell? ⟨rb, 0, none⟩ = some (.slice a L.length cp) ∧ L.length ≤ cp ∧ ByL w rb Bd a L
def lackV : Value := .iface 150 (.agg #[])
def lackE : Ending := .panicked [{ v := lackV, recovered := false }]
theorem RdAt.kept {S : Nat → Prop} {w w' : World} {rb Bd : Nat} {L : List UInt8} (h : RdAt w rb Bd L) (k : Kept S w w') (hr : ¬ S rb) (hS : ∀ b, b < Bd → b ≠ rb → ¬ S b) : RdAt w' rb Bd L := by
  obtain ⟨a, cp, h1, h2, h3⟩ := h.c
  exact ⟨h.row.kept k hr, Nat.le_trans h.le k.size, a, cp, (k.cell (p := ⟨rb, 0, none⟩) h.row.lt hr).trans h1, h2, h3.kept h.le k hS⟩
theorem RdAt.keep {w w' : World} {rb Bd : Nat} {L : List UInt8} (h : RdAt w rb Bd L) (k : Kept (fun _ => False) w w') : RdAt w' rb Bd L := h.kept k (fun e => e) (fun _ _ _ e => e)
set_option maxRecDepth 100000 in
set_option maxHeartbeats 4000000 in
theorem rtake_any {w : World} {rb Bd : Nat} {L : List UInt8} (h : RdAt w rb Bd L) (n : Nat) (hn : n < 4294967296) (hL : L.length ≤ 1000000) :
    Calls Tryz.prog 112 #[.pointer (some ⟨rb, 0, none⟩), .int .i64 (n : Int)] w fun e w' => Kept (fun b => b = rb) w w' ∧ ((n ≤ L.length ∧ ∃ a cp, e = .returned (.slice a n cp) ∧ n ≤ cp ∧ ByL w' rb Bd a (L.take n) ∧ RdAt w' rb Bd (L.drop n)) ∨ (L.length < n ∧ e = lackE)) := by
  obtain ⟨a, cp, hc, hcp, hby⟩ := h.c
  have hle := h.le
  have HB := Lib.hid (And.intro hby (And.intro h.row hle))
  have hfr := h.row.frozen 0
  obtain ⟨T, hT⟩ : ∃ T, L.length = T := ⟨_, rfl⟩
  have HT := Lib.hid hT
  rw [hT] at hc hcp hL
  clear h hby hT hle
  go_enter Tryz.func112, Tryz.ntmps112
  by_cases hnT : n ≤ T
  · have h1 : ¬ (T : Int) < (n : Int) := by omega
    have h2 : (0 : Int) ≤ (n : Int) := by omega
    have h3 : (n : Int) ≤ (cp : Int) := by omega
    have h4 : (n : Int) ≤ (T : Int) := by omega
    have hnn : ((n : Int)).toNat = n := Int.toNat_natCast n
    have HN := Lib.hid hnT
    have hne : ¬ rb = rb → False := fun e => e rfl
    by_cases hcn : cp = n
    · subst hcn
      have hTn : T = cp := by omega
      have HTN := Lib.hid hTn
      clear hnT hTn hne
      go_wp2_with fail
      go_ret
      have ks := Kept.one_set w ⟨rb, 0, none⟩ (.slice a 0 0)
      have hd : L.drop cp = [] := List.drop_eq_nil_of_le (by rw [HT.out]; exact Nat.le_of_eq HTN.out)
      refine ⟨ks, .inl ⟨by rw [HT.out]; exact HN.out, a, cp, rfl, Nat.le_refl _, (HB.out.1.take cp).kept HB.out.2.2 ks (fun b _ h e => h e), HB.out.2.1.setCell _ _, Nat.le_trans HB.out.2.2 ks.size, a, 0, ?_, ?_, ?_⟩⟩
      · rw [hd, cell_set_same HB.out.2.1 (by omega)]
        rfl
      · rw [hd]
        exact Nat.le_refl _
      · rw [hd]
        intro i u hu
        cases hu
    · clear hnT hne
      go_wp2_with fail
      go_ret
      have ks := Kept.one_set w ⟨rb, 0, none⟩ (.slice (Option.map (fun x => x.add n) a) (T - n) (cp - n))
      refine ⟨ks, .inl ⟨by rw [HT.out]; exact HN.out, a, cp, rfl, by omega, (HB.out.1.take n).kept HB.out.2.2 ks (fun b _ h e => h e), HB.out.2.1.setCell _ _, Nat.le_trans HB.out.2.2 ks.size, _, cp - n, ?_, ?_, (HB.out.1.dropM n).kept HB.out.2.2 ks (fun b _ h e => h e)⟩⟩
      · rw [cell_set_same HB.out.2.1 (by omega), List.length_drop, HT.out]
      · rw [List.length_drop, HT.out]
        omega
  · have h1 : (T : Int) < (n : Int) := by omega
    have HN := Lib.hid hnT
    clear hnT
    go_wp2_with fail
    exact ⟨rfl, Kept.refl _ _, .inr ⟨by have := HT.out; have := HN.out; omega, rfl⟩⟩
def accL (l : List UInt8) : Nat := l.foldl (fun n u => n * 256 + u.toNat) 0
theorem accL_snoc (l : List UInt8) (u : UInt8) : accL (l ++ [u]) = accL l * 256 + u.toNat := by simp [accL]
theorem accL_lt (l : List UInt8) (n : Nat) : l.foldl (fun n u => n * 256 + u.toNat) n < (n + 1) * 256 ^ l.length := by
  induction l generalizing n with
  | nil => simp
  | cons u l ih =>
    have h := ih (n * 256 + u.toNat)
    have h1 := u.toNat_lt
    have h2 : (n * 256 + u.toNat + 1) * 256 ^ l.length ≤ ((n + 1) * 256) * 256 ^ l.length := Nat.mul_le_mul_right _ (by omega)
    rw [List.foldl_cons, List.length_cons, Nat.pow_succ, Nat.mul_comm (256 ^ l.length) 256, ← Nat.mul_assoc]
    omega
theorem accL_le3 {l : List UInt8} (h : l.length ≤ 3) : accL l < 16777216 := by
  have h1 := accL_lt l 0
  have h2 : 256 ^ l.length ≤ 256 ^ 3 := Nat.pow_le_pow_right (by omega) h
  have h3 : (256 : Nat) ^ 3 = 16777216 := by decide
  rw [Nat.zero_add, Nat.one_mul] at h1
  unfold accL
  omega
theorem or_byte {A U : Nat} (hA : A < 16777216) (hU : U < 256) : bits .or .i64 ((A : Int) * 256) (U : Int) = ((A * 256 + U : Nat) : Int) := by
  have e64 : ((2 ^ 64 : Nat) : Int) = 18446744073709551616 := by decide
  have e1 : (BitVec.ofInt 64 ((A : Int) * 256)).toNat = A * 256 := by
    rw [BitVec.toNat_ofInt, Int.emod_eq_of_lt (by omega) (by omega)]
    omega
  have e2 : (BitVec.ofInt 64 (U : Int)).toNat = U := by
    rw [BitVec.toNat_ofInt, Int.emod_eq_of_lt (by omega) (by omega)]
    omega
  have key : (BitVec.ofInt 64 ((A : Int) * 256) ||| BitVec.ofInt 64 (U : Int)).toNat = A * 256 + U := by
    rw [BitVec.toNat_or, e1, e2]
    have h := Nat.shiftLeft_add_eq_or_of_lt (a := A) (b := U) (i := 8) hU
    rw [Nat.shiftLeft_eq] at h
    exact h.symm
  show IntKind.i64.wrap ((BitVec.ofInt 64 ((A : Int) * 256) ||| BitVec.ofInt 64 (U : Int)).toNat : Nat) = _
  rw [key, IntKind.wrap_i64]
  omega
theorem dNum_acc (L : List UInt8) : dNum L = if 4 ≤ L.length then some (accL (L.take 4), L.drop 4) else none := by
  match L with
  | [] => rfl
  | [a] => rfl
  | [a, b] => rfl
  | [a, b, c] => rfl
  | a :: b :: c :: d :: r =>
    rw [if_pos (by simp)]
    show some (_, r) = some (accL [a, b, c, d], r)
    simp [accL]
set_option maxRecDepth 100000 in
set_option maxHeartbeats 4000000 in
theorem rnum_any {w : World} {rb Bd : Nat} {L : List UInt8} (h : RdAt w rb Bd L) (hL : L.length ≤ 1000000) :
    Calls Tryz.prog 93 #[.pointer (some ⟨rb, 0, none⟩)] w fun e w' => Kept (fun b => b = rb) w w' ∧ ((∃ n r, dNum L = some (n, r) ∧ e = .returned (.int .i64 (n : Int)) ∧ RdAt w' rb Bd r) ∨ (dNum L = none ∧ e = lackE)) := by
  have T := Lib.hid (rtake_any h 4 (by omega) hL)
  clear h
  go_enter Tryz.func93, Tryz.ntmps93
  go_wp2_with fail
  refine T.out.mono ?_
  rintro e w1 ⟨k1, ⟨h4, a, cp, rfl, hcp, hby, hrd⟩ | ⟨h4, rfl⟩⟩
  · have R := Lib.hid (And.intro k1 (And.intro h4 (And.intro hby hrd)))
    clear k1 h4 hby hrd T
    go_wp2_with fail
    go_loopw [2, 4, 8] (fun s2 s4 s8 wr => ∃ i : Nat, i ≤ 4 ∧ s8 = .int .i64 (i : Int) ∧ s2 = .int .i64 (accL ((L.take 4).take i) : Int) ∧ wr = w1) (fun _ _ s8 _ => 4 - (intOf s8).toNat)
    case atStart => exact ⟨0, by omega, rfl, rfl, rfl⟩
    case round =>
      obtain ⟨i, hi, rfl, rfl, rfl⟩ := hrel
      by_cases hlt : i < 4
      · obtain ⟨u, hu⟩ : ∃ u, (L.take 4)[i]? = some u := ⟨_, List.getElem?_eq_getElem (by rw [List.length_take]; have := R.out.2.1; omega)⟩
        obtain ⟨b, o, rfl, hb, -, hc⟩ := R.out.2.2.1 i u hu
        have hin : (i : Int) < 4 := by omega
        obtain ⟨A, hA⟩ : ∃ A, accL ((L.take 4).take i) = A := ⟨_, rfl⟩
        have hAl : A < 16777216 := by
          rw [← hA]
          exact accL_le3 (by rw [List.length_take]; omega)
        obtain ⟨U, hU⟩ : ∃ U, u.toNat = U := ⟨_, rfl⟩
        have hU2 : U < 256 := by rw [← hU]; exact u.toNat_lt
        rw [hU] at hc
        rw [hA]
        have hnext : accL ((L.take 4).take (i + 1)) = A * 256 + U := by
          have e : (L.take 4).take (i + 1) = (L.take 4).take i ++ [u] := by
            obtain ⟨h1, h2⟩ := List.getElem?_eq_some_iff.1 hu
            rw [List.take_succ_eq_append_getElem h1, h2]
          rw [e, accL_snoc, hA, hU]
        have HX := Lib.hid (And.intro hnext (And.intro hAl hU2))
        clear hnext hU hA hu
        go_wp2_with fail
        refine ⟨⟨i + 1, hlt, rfl, ?_, trivial⟩, by simp only [intOf]; omega⟩
        rw [HX.out.1, or_byte HX.out.2.1 HX.out.2.2]
      · obtain rfl : i = 4 := by omega
        clear hlt
        go_wp2_with fail
        go_ret
        refine ⟨R.out.1, .inl ⟨_, _, by rw [dNum_acc, if_pos R.out.2.1], ?_, R.out.2.2.2⟩⟩
        rw [List.take_take]
        rfl
  · have K := Lib.hid (And.intro k1 h4)
    clear k1 h4
    simp only [lackE]
    go_wp2_with fail
    exact ⟨rfl, K.out.1, .inr ⟨by rw [dNum_acc, if_neg (by have := K.out.2; omega)], rfl⟩⟩
theorem strOf_u8 (L : List UInt8) : strOfNums (L.map fun u => (u.toNat : Int)) = ⟨L.toArray⟩ := by
  unfold strOfNums
  congr 1
  rw [List.map_map]
  apply Array.ext'
  simp only [List.toList_toArray]
  conv => rhs; rw [← List.map_id L]
  apply List.map_congr_left
  intro b hb
  simp
theorem ByL.conv {w : World} {rb Bd n c : Nat} {a : Option Addr} {L : List UInt8} (h : ByL w rb Bd a L) (hn : L.length = n) : (convert 28 9 (.slice a n c)).run Tryz.prog w = .ok (.string ⟨L.toArray⟩) w := by
  by_cases h0 : 0 < n
  · obtain ⟨b, o, rfl, -⟩ := h 0 _ (List.getElem?_eq_getElem (by omega))
    have := run_convert_bytes_arg (P := Tryz.prog) w 28 5 Tryz.underlying28 Tryz.underlying5 b o n c (L.map fun u => (u.toNat : Int)) (by rw [List.length_map]; exact hn) (fun i hi => by
      have hi' : i < L.length := by rw [hn]; simpa using hi
      obtain ⟨b', o', e, -, -, hc⟩ := h i _ (List.getElem?_eq_getElem hi')
      cases e
      rw [hc]
      simp [List.getD_eq_getElem?_getD, hi']) 9 Tryz.underlying9
    rw [strOf_u8] at this
    exact this
  · obtain rfl : n = 0 := by omega
    have hL : L = [] := List.eq_nil_of_length_eq_zero hn
    subst hL
    exact run_convert_bytes_zero w 28 5 Tryz.underlying28 Tryz.underlying5 a c 9 Tryz.underlying9
theorem dNum_lt {L r : List UInt8} {n : Nat} (h : dNum L = some (n, r)) : n < 4294967296 ∧ r.length ≤ L.length := by
  obtain ⟨h1, h2⟩ := num_dNum h
  exact ⟨h1, by rw [h2, List.length_append]; omega⟩
set_option maxRecDepth 100000 in
set_option maxHeartbeats 4000000 in
theorem text_any {w : World} {rb Bd : Nat} {L : List UInt8} (h : RdAt w rb Bd L) (hL : L.length ≤ 1000000) :
    Calls Tryz.prog 96 #[.pointer (some ⟨rb, 0, none⟩)] w fun e w' => Kept (fun b => b = rb) w w' ∧ ((∃ s r, dTxt L = some (s, r) ∧ e = .returned (.string s) ∧ RdAt w' rb Bd r) ∨ (dTxt L = none ∧ e = lackE)) := by
  have N := Lib.hid (rnum_any h hL)
  clear h
  go_enter Tryz.func96, Tryz.ntmps96
  go_wp2_with fail
  refine N.out.mono ?_
  rintro e w1 ⟨k1, ⟨n, r, hd, rfl, hrd⟩ | ⟨hd, rfl⟩⟩
  · obtain ⟨hn, hr⟩ := dNum_lt hd
    have TK := Lib.hid (rtake_any hrd n hn (by omega))
    have K1 := Lib.hid (And.intro k1 hd)
    clear k1 hd hrd N
    go_wp2_with fail
    refine TK.out.mono ?_
    rintro e w2 ⟨k2, ⟨hle, a, cp, rfl, hcp, hby, hrd⟩ | ⟨hgt, rfl⟩⟩
    · have hcv := hby.conv (c := cp) (n := n) (by rw [List.length_take]; omega)
      have R := Lib.hid (And.intro k2 (And.intro hle hrd))
      clear k2 hle hby hrd TK
      go_wp2_with fail
      go_ret
      refine ⟨K1.out.1.trans R.out.1 (fun _ _ e => e), .inl ⟨_, _, ?_, rfl, R.out.2.2⟩⟩
      unfold dTxt
      rw [K1.out.2]
      simp only
      rw [if_pos R.out.2.1]
    · have K2 := Lib.hid (And.intro k2 hgt)
      clear k2 hgt
      simp only [lackE]
      go_wp2_with fail
      refine ⟨rfl, K1.out.1.trans K2.out.1 (fun _ _ e => e), .inr ⟨?_, rfl⟩⟩
      unfold dTxt
      rw [K1.out.2]
      simp only
      rw [if_neg (by have := K2.out.2; omega)]
  · have K := Lib.hid (And.intro k1 hd)
    clear k1 hd
    simp only [lackE]
    go_wp2_with fail
    refine ⟨rfl, K.out.1, .inr ⟨?_, rfl⟩⟩
    unfold dTxt
    rw [K.out.2]
end Go.Proofs.YtdkcnigghcbnpaaGreat

/- image's reader: rows of texts. -/
namespace Go.Proofs.YtdkcnigghcbnpaaGreat
set_option linter.unusedVariables false
set_option linter.unusedSimpArgs false
open Go.RowKit Go.MapKept

theorem textsE : Elem Tryz.prog 64 9 (.string ⟨#[]⟩) 1 16 := ⟨Tryz.underlying64, by kernel_rfl, rfl, by omega⟩
def strV (l : List ByteArray) : List Value := l.map Value.string
theorem RdAt.len {w : World} {rb Bd : Nat} {L : List UInt8} (h : RdAt w rb Bd L) : True := trivial
theorem dTxt_lt {L r : List UInt8} {s : ByteArray} (h : dTxt L = some (s, r)) : r.length ≤ L.length := by
  obtain ⟨-, h2⟩ := txt_dTxt h
  rw [h2, List.length_append]
  omega
set_option maxRecDepth 100000 in
set_option maxHeartbeats 4000000 in
theorem rowsS_any {w : World} {rb Bd : Nat} {L : List UInt8} (h : RdAt w rb Bd L) (hL : L.length ≤ 1000000) :
    Calls Tryz.prog 97 #[.pointer (some ⟨rb, 0, none⟩), .func (.func 96) #[.pointer (some ⟨rb, 0, none⟩)] #[]] w fun e w' => Kept (fun b => b = rb) w w' ∧ ((∃ l r sv, cTxts.dec L = some (l, r) ∧ e = .returned sv ∧ w'.ownsRow 0 9 1 sv l.length (strV l) ∧ (∀ b, sv.ownBlock = some b → w.heap.size ≤ b) ∧ RdAt w' rb Bd r) ∨ (cTxts.dec L = none ∧ e = lackE)) := by
  have N := Lib.hid (rnum_any h hL)
  have HR := Lib.hid (And.intro h.row.lt h.le)
  clear h
  go_enter Tryz.func97, Tryz.ntmps97
  go_wp2_with fail
  refine N.out.mono ?_
  rintro e w1 ⟨k1, ⟨n, r0, hd, rfl, hrd⟩ | ⟨hd, rfl⟩⟩
  · obtain ⟨hn, hr0⟩ := dNum_lt hd
    have K1 := Lib.hid (And.intro k1 (And.intro hd hrd))
    clear k1 hd hrd N
    by_cases hn64 : n ≤ 64
    · have h64 : ¬ (64 : Int) < (n : Int) := by omega
      have hdec : cTxts.dec L = repD cTxt n r0 := by
        show (match dNum L with | some (n, r) => if 64 < n then none else repD cTxt n r | none => none) = _
        rw [K1.out.2.1]
        simp only
        rw [if_neg (by omega)]
      have HD := Lib.hid hdec
      clear hdec
      go_wp2_with fail
      go_loopw [4, 13] (fun s4 s13 wr => ∃ (i : Nat) (l : List ByteArray) (r : List UInt8), i ≤ n ∧ s13 = .int .i64 (i : Int) ∧ repD cTxt i r0 = some (l, r) ∧ l.length = i ∧ r.length ≤ 1000000 ∧ wr.ownsRow 0 9 1 s4 l.length (strV l) ∧ (∀ b, s4.ownBlock = some b → w.heap.size ≤ b) ∧ RdAt wr rb Bd r ∧ Kept (fun b => b = rb) w wr) (fun _ s13 _ => n - (intOf s13).toNat)
      case atStart => exact ⟨0, [], r0, Nat.zero_le _, rfl, rfl, rfl, by omega, World.ownsRow_nil _ _ _ _, (fun b e => by cases e), K1.out.2.2, K1.out.1⟩
      case round =>
        obtain ⟨i, l, r, hi, rfl, hrep, hll, hrl, hown, hfr, hrd, hk⟩ := hrel
        have TX := Lib.hid (text_any hrd hrl)
        have R := Lib.hid (And.intro hrep (And.intro hown (And.intro hfr (And.intro hrd hk))))
        clear hrep hown hfr hrd hk
        by_cases hlt : i < n
        · have hin : (i : Int) < (n : Int) := by omega
          go_wp2_with fail
          refine TX.out.mono ?_
          rintro e w2 ⟨k2, ⟨s, r', hd, rfl, hrd⟩ | ⟨hd, rfl⟩⟩
          · obtain ⟨sa, sc, rfl, -⟩ := own_form R.out.2.1
            obtain ⟨hrb, hBd⟩ := HR.out
            have hown2 := ownsRow_kept (ownsRow_kept R.out.2.1 k2 (fun b e e' => by have e' : b = rb := e'; have := R.out.2.2.1 b e; omega)) (Kept.one_alloc w2 (.cells #[.string s] 9)) (fun _ _ e => e)
            rw [hll] at hown2
            have HROW := Lib.hid hown2
            have X := Lib.hid (And.intro k2 (And.intro hd hrd))
            have HLL := Lib.hid (And.intro hll (show i + 1 ≤ 64 from by omega))
            rw [hll]
            clear hown2 k2 hd hrd TX
            go_wp2_with (at_builtin; refine wpList_append_mine rfl _ _ textsE rfl rfl HROW.out (some ⟨w2.heap.size, 0, none⟩) 1 1 [.string s] rfl rfl (holds_block (heap_alloc_new w2 _)) (by simp [Value.oneCell']) (Nat.le_trans HLL.out.2 (by decide)) (Nat.le_trans (Nat.mul_le_mul_right 16 HLL.out.2) (by decide)) ?_; intro a3 c3 w6 own6 k6 b6; have O6 := Lib.hid (And.intro own6 (And.intro k6 b6)); clear own6 k6 b6)
            have hl2 : (l ++ [s]).length = i + 1 := by rw [List.length_append, HLL.out.1]; rfl
            have hz2 := X.out.1.size
            have hzw := R.out.2.2.2.2.size
            have hza := (Kept.one_alloc w2 (.cells #[.string s] 9)).size
            have hfr : ∀ b, (Value.slice sa i sc).ownBlock = some b → w.heap.size ≤ b := fun b e => R.out.2.2.1 b (by rw [hll]; exact e)
            have hk6 : Kept (fun b => b = rb) w w6 := ((R.out.2.2.2.2.trans X.out.1 (fun _ _ e => e)).trans (Kept.one_alloc w2 _) (fun _ _ e => e.elim)).trans O6.out.2.1 (fun b hb e => absurd hb (Nat.not_lt.2 (hfr b e)))
            have hrd6 : RdAt w6 rb Bd r' := (X.out.2.2.keep (Kept.one_alloc w2 (.cells #[.string s] 9))).kept O6.out.2.1 (fun e => by have := hfr rb e; omega) (fun b hb _ e => by have := hfr b e; omega)
            refine ⟨⟨i + 1, l ++ [s], r', hlt, rfl, ?_, hl2, Nat.le_trans (dTxt_lt X.out.2.1) hrl, ?_, ?_, hrd6, hk6⟩, by simp only [intOf]; omega⟩
            · rw [repD_snoc cTxt i r0 l r R.out.1]
              rw [show cTxt.dec r = some (s, r') from X.out.2.1]
            · rw [hl2]
              unfold strV at HROW ⊢
              rw [List.map_append]
              exact O6.out.1
            · intro b e
              rcases O6.out.2.2 with ho | ho
              · exact hfr b (ho.symm.trans e)
              · have := Option.some.inj (ho.symm.trans e)
                omega
          · have X := Lib.hid (And.intro k2 hd)
            clear k2 hd
            simp only [lackE]
            go_wp2_with fail
            refine ⟨rfl, R.out.2.2.2.2.trans X.out.1 (fun _ _ e => e), .inr ⟨?_, rfl⟩⟩
            rw [HD.out]
            exact repD_stop cTxt R.out.1 X.out.2 n hlt
        · obtain rfl : i = n := by omega
          go_wp2_with fail
          go_ret
          refine ⟨R.out.2.2.2.2, .inl ⟨l, r, _, by rw [HD.out]; exact R.out.1, rfl, R.out.2.1, R.out.2.2.1, R.out.2.2.2.1⟩⟩
    · have h64 : (64 : Int) < (n : Int) := by omega
      have HN := Lib.hid hn64
      clear hn64
      go_wp2_with fail
      refine ⟨rfl, K1.out.1, .inr ⟨?_, rfl⟩⟩
      show (match dNum L with | some (n, r) => if 64 < n then none else repD cTxt n r | none => none) = none
      rw [K1.out.2.1]
      simp only
      rw [if_pos (by have := HN.out; omega)]
  · have K := Lib.hid (And.intro k1 hd)
    clear k1 hd
    simp only [lackE]
    go_wp2_with fail
    refine ⟨rfl, K.out.1, .inr ⟨?_, rfl⟩⟩
    show (match dNum L with | some (n, r) => if 64 < n then none else repD cTxt n r | none => none) = none
    rw [K.out.2]
end Go.Proofs.YtdkcnigghcbnpaaGreat

/- image's reader: a link. -/
namespace Go.Proofs.YtdkcnigghcbnpaaGreat
set_option linter.unusedVariables false
set_option linter.unusedSimpArgs false
open Go.RowKit Go.MapKept

theorem row_set3 {w : World} {b : Nat} {v0 v1 v2 : Value} (h : RowAt w b 3) : ∃ t, (((w.setCell ⟨b, 0, none⟩ v0).setCell ⟨b, 1, none⟩ v1).setCell ⟨b, 2, none⟩ v2).heap[b]? = some (.cells #[v0, v1, v2] t (0, 0)) := by
  obtain ⟨c, t, h1, h2⟩ := h
  obtain ⟨l⟩ := c
  match l, h2 with
  | [a0, a1, a2], _ =>
    refine ⟨t, ?_⟩
    simp [World.setCell, Array.getElem?_modify, h1]
set_option maxRecDepth 100000 in
set_option maxHeartbeats 4000000 in
theorem link_any {w : World} {xb rb Bd : Nat} {L : List UInt8} (hx : Box w xb (.pointer (some ⟨rb, 0, none⟩))) (hne : xb ≠ rb) (h : RdAt w rb Bd L) (hL : L.length ≤ 1000000) :
    Calls Tryz.prog 101 #[.pointer (some ⟨xb, 0, none⟩)] w fun e w' => Kept (fun b => b = rb) w w' ∧ ((∃ x r, cL.dec L = some (x, r) ∧ e = .returned (.agg #[.string x.1, .string x.2.1, .int .i64 (x.2.2 : Int)]) ∧ RdAt w' rb Bd r) ∨ (cL.dec L = none ∧ e = lackE)) := by
  have H := Lib.hid (And.intro hx h)
  clear hx h
  go_enter Tryz.func101, Tryz.ntmps101
  go_wp2_with fail
  obtain ⟨lb, hlb⟩ : ∃ lb, w.heap.size = lb := ⟨_, rfl⟩
  obtain ⟨w0, hw0⟩ : ∃ w0, w.alloc (.cells #[.string ⟨#[]⟩, .string ⟨#[]⟩, .int .i64 0] 103) = w0 := ⟨_, rfl⟩
  have k0 : Kept (fun _ => False) w w0 := by rw [← hw0]; exact Kept.one_alloc _ _
  have hrow0 : RowAt w0 lb 3 := by rw [← hw0, ← hlb]; exact RowAt.new w _ _
  have hrl : rb < lb := by rw [← hlb]; exact H.out.2.row.lt
  have LBN := Lib.hid (And.intro hlb (And.intro k0 hrl))
  have LB := Lib.hid (show ∀ w', Kept (fun b => b = rb) w0 w' → RowAt w' lb 3 from fun w' k => hrow0.kept k (fun e => by have e : lb = rb := e; omega))
  have CX := Lib.hid (show ∀ w', Kept (fun b => b = rb ∨ b = lb) w0 w' → w'.cell? ⟨xb, 0, none⟩ = some (.pointer (some ⟨rb, 0, none⟩)) from fun w' k => ((H.out.1.kept k0 (fun e => e)).kept k (fun e => e.elim hne (fun e => by have := H.out.1.lt; omega))).cell)
  rw [hw0, hlb]
  clear hlb hw0 k0 hrow0 hrl
  refine wp_region_heldQ (S := fun w' => w'.cell? ⟨xb, 0, none⟩ = some (.pointer (some ⟨rb, 0, none⟩))) (by kernel_rfl) ?_ (fun hHeld => ?_)
  · exact CX.out _ (((Kept.refl (fun _ => False) w0).drew).mono fun _ _ e => e.elim)
  refine held_take 0 (oi := _) (v := ?_) rfl (by kernel_rfl) (by kernel_rfl) (by kernel_rfl) (fun _ _ _ h => h) (by rfl) (fun w hSw => ?_) (by assumption) ?_
  rotate_left
  · (try dsimp only at hSw); go_simp; try with_reducible rfl
  try simp only [Act.put, List.setIfInBounds_toArray, List.set_cons_zero, List.set_cons_succ]
  refine held_take 2 (oi := _) (v := ?_) rfl (by kernel_rfl) (by kernel_rfl) (by kernel_rfl) (fun _ _ _ h => h) (by rfl) (fun w hSw => ?_) (by assumption) ?_
  rotate_left
  · (try dsimp only at hSw); go_simp; try with_reducible rfl
  try simp only [Act.put, List.setIfInBounds_toArray, List.set_cons_zero, List.set_cons_succ]
  refine held_take 4 (oi := _) (v := ?_) rfl (by kernel_rfl) (by kernel_rfl) (by kernel_rfl) (fun _ _ _ h => h) (by rfl) (fun w hSw => ?_) (by assumption) ?_
  rotate_left
  · (try dsimp only at hSw); go_simp; try with_reducible rfl
  try simp only [Act.put, List.setIfInBounds_toArray, List.set_cons_zero, List.set_cons_succ]
  refine wpAnyH_ready (rs := [1]) (by kernel_rfl) (by simp) ?_
  refine held_cons 1 (o := _) rfl (fun KC hKC => ?_) AllReadyH.nil
  go_simp
  with_reducible refine Calls.mono (text_any (H.out.2.keep (LBN.out.2.1.drew)) (hL)) ?_
  rintro e1 wA ⟨kwA, hor⟩
  have KwA := Lib.hid ((((Kept.refl (fun _ => False) w0).drew).mono (S' := fun b => b = rb) fun _ _ e => e.elim).trans kwA (fun _ _ e => e))
  rcases hor with ⟨s1, r1, hdwA, rfl, hrwA⟩ | ⟨hdwA, rfl⟩
  case' inr =>
    simp only [lackE]
    try dsimp only
    refine ⟨rfl, (LBN.out.2.1.mono (S' := fun b => b = rb) fun _ _ e => e.elim).trans KwA.out (fun _ _ e => e), .inr ⟨?_, rfl⟩⟩
    exact cPair_none1 (A := cTxt) hdwA
  have RwA := Lib.hid (And.intro hdwA hrwA)
  clear kwA hdwA hrwA
  try dsimp only
  refine hKC.out _ _ ?_ (fun hHeld => ?_)
  · first | exact CX.out _ ((((KwC.out.mono (S' := fun b => b = rb ∨ b = lb) fun _ _ e => .inl e).trans (Kept.one_set _ ⟨lb, 0, none⟩ _) (fun b hb e => .inr e)).trans (Kept.one_set _ ⟨lb, 1, none⟩ _) (fun b hb e => .inr e)).trans (Kept.one_set _ ⟨lb, 2, none⟩ _) (fun b hb e => .inr e)) | exact CX.out _ (KwC.out.mono fun _ _ e => .inl e) | exact CX.out _ (KwB.out.mono fun _ _ e => .inl e) | exact CX.out _ (KwA.out.mono fun _ _ e => .inl e)
  clear hKC KC
  try simp only [Act.put, List.setIfInBounds_toArray, List.set_cons_zero, List.set_cons_succ]
  refine wpAnyH_ready (rs := [3]) (by kernel_rfl) (by simp) ?_
  refine held_cons 3 (o := _) rfl (fun KC hKC => ?_) AllReadyH.nil
  go_simp
  with_reducible refine Calls.mono (text_any RwA.out.2 (Nat.le_trans (dTxt_lt RwA.out.1) hL)) ?_
  rintro e1 wB ⟨kwB, hor⟩
  have KwB := Lib.hid (KwA.out.trans kwB (fun _ _ e => e))
  rcases hor with ⟨s2, r2, hdwB, rfl, hrwB⟩ | ⟨hdwB, rfl⟩
  case' inr =>
    simp only [lackE]
    try dsimp only
    refine ⟨rfl, (LBN.out.2.1.mono (S' := fun b => b = rb) fun _ _ e => e.elim).trans KwB.out (fun _ _ e => e), .inr ⟨?_, rfl⟩⟩
    exact cPair_none2 (A := cTxt) RwA.out.1 (cPair_none1 (A := cTxt) hdwB)
  have RwB := Lib.hid (And.intro hdwB hrwB)
  clear kwB hdwB hrwB
  try dsimp only
  refine hKC.out _ _ ?_ (fun hHeld => ?_)
  · first | exact CX.out _ ((((KwC.out.mono (S' := fun b => b = rb ∨ b = lb) fun _ _ e => .inl e).trans (Kept.one_set _ ⟨lb, 0, none⟩ _) (fun b hb e => .inr e)).trans (Kept.one_set _ ⟨lb, 1, none⟩ _) (fun b hb e => .inr e)).trans (Kept.one_set _ ⟨lb, 2, none⟩ _) (fun b hb e => .inr e)) | exact CX.out _ (KwC.out.mono fun _ _ e => .inl e) | exact CX.out _ (KwB.out.mono fun _ _ e => .inl e) | exact CX.out _ (KwA.out.mono fun _ _ e => .inl e)
  clear hKC KC
  try simp only [Act.put, List.setIfInBounds_toArray, List.set_cons_zero, List.set_cons_succ]
  refine wpAnyH_ready (rs := [5]) (by kernel_rfl) (by simp) ?_
  refine held_cons 5 (o := _) rfl (fun KC hKC => ?_) AllReadyH.nil
  go_simp
  with_reducible refine Calls.mono (rnum_any RwB.out.2 (Nat.le_trans (Nat.le_trans (dTxt_lt RwB.out.1) (dTxt_lt RwA.out.1)) hL)) ?_
  rintro e1 wC ⟨kwC, hor⟩
  have KwC := Lib.hid (KwB.out.trans kwC (fun _ _ e => e))
  rcases hor with ⟨n3, r3, hdwC, rfl, hrwC⟩ | ⟨hdwC, rfl⟩
  case' inr =>
    simp only [lackE]
    try dsimp only
    refine ⟨rfl, (LBN.out.2.1.mono (S' := fun b => b = rb) fun _ _ e => e.elim).trans KwC.out (fun _ _ e => e), .inr ⟨?_, rfl⟩⟩
    exact cPair_none2 (A := cTxt) RwA.out.1 (cPair_none2 (A := cTxt) RwB.out.1 hdwC)
  have RwC := Lib.hid (And.intro hdwC hrwC)
  clear kwC hdwC hrwC
  try dsimp only
  refine hKC.out _ _ ?_ (fun hHeld => ?_)
  · first | exact CX.out _ ((((KwC.out.mono (S' := fun b => b = rb ∨ b = lb) fun _ _ e => .inl e).trans (Kept.one_set _ ⟨lb, 0, none⟩ _) (fun b hb e => .inr e)).trans (Kept.one_set _ ⟨lb, 1, none⟩ _) (fun b hb e => .inr e)).trans (Kept.one_set _ ⟨lb, 2, none⟩ _) (fun b hb e => .inr e)) | exact CX.out _ (KwC.out.mono fun _ _ e => .inl e) | exact CX.out _ (KwB.out.mono fun _ _ e => .inl e) | exact CX.out _ (KwA.out.mono fun _ _ e => .inl e)
  clear hKC KC
  try simp only [Act.put, List.setIfInBounds_toArray, List.set_cons_zero, List.set_cons_succ]
  refine held_take 6 (oi := _) (v := ?_) rfl (by kernel_rfl) (by kernel_rfl) (by kernel_rfl) (fun _ _ _ h => h) (by rfl) (fun w hSw => ?_) (by assumption) ?_
  rotate_left
  · (try dsimp only at hSw); go_simp; try with_reducible rfl
  try simp only [Act.put, List.setIfInBounds_toArray, List.set_cons_zero, List.set_cons_succ]
  refine wpAnyH_ready (rs := [7]) (by kernel_rfl) (by simp) ?_
  refine held_cons 7 (o := _) rfl (fun KC hKC => ?_) AllReadyH.nil
  have row7 := LB.out _ KwC.out
  have f0 := row7.frozen 0
  have f1 := row7.frozen 1
  have f2 := row7.frozen 2
  obtain ⟨v0, c0⟩ := row7.some (o := 0) (by omega)
  obtain ⟨v1, c1⟩ := row7.some (o := 1) (by omega)
  obtain ⟨v2, c2⟩ := row7.some (o := 2) (by omega)
  have R7 := Lib.hid row7
  clear row7
  go_simp
  refine hKC.out _ _ ?_ (fun hHeld => ?_)
  · first | exact CX.out _ ((((KwC.out.mono (S' := fun b => b = rb ∨ b = lb) fun _ _ e => .inl e).trans (Kept.one_set _ ⟨lb, 0, none⟩ _) (fun b hb e => .inr e)).trans (Kept.one_set _ ⟨lb, 1, none⟩ _) (fun b hb e => .inr e)).trans (Kept.one_set _ ⟨lb, 2, none⟩ _) (fun b hb e => .inr e)) | exact CX.out _ (KwC.out.mono fun _ _ e => .inl e) | exact CX.out _ (KwB.out.mono fun _ _ e => .inl e) | exact CX.out _ (KwA.out.mono fun _ _ e => .inl e)
  clear hKC KC
  try simp only [Act.put, List.setIfInBounds_toArray, List.set_cons_zero, List.set_cons_succ]
  refine wpAnyH_done (by kernel_rfl) ?_ _
  go_wp2_with fail
  obtain ⟨t9, h9⟩ := row_set3 (v0 := .string s1) (v1 := .string s2) (v2 := .int .i64 (n3 : Int)) R7.out
  refine bodyPost_ret (results_cell_row (ty := 103) (p := 1) rfl _ _ lb t9 #[.string s1, .string s2, .int .i64 (n3 : Int)] (0, 0) _ rfl h9 Tryz.underlying103 rfl (by kernel_rfl)) rfl ?_
  have hrl := LBN.out.2.2
  have hlw := LBN.out.1
  have ks : Kept (fun b => b = lb) wC (((wC.setCell ⟨lb, 0, none⟩ (.string s1)).setCell ⟨lb, 1, none⟩ (.string s2)).setCell ⟨lb, 2, none⟩ (.int .i64 (n3 : Int))) := ((Kept.one_set wC ⟨lb, 0, none⟩ _).trans (Kept.one_set _ ⟨lb, 1, none⟩ _) (fun _ _ e => e)).trans (Kept.one_set _ ⟨lb, 2, none⟩ _) (fun _ _ e => e)
  have hle := H.out.2.le
  refine ⟨((LBN.out.2.1.mono (S' := fun b => b = rb) fun _ _ e => e.elim).trans KwC.out (fun _ _ e => e)).trans ks (fun b hb e => by have e : b = lb := e; omega), .inl ⟨(s1, s2, n3), r3, cPair_some (A := cTxt) RwA.out.1 (cPair_some (A := cTxt) RwB.out.1 RwC.out.1), rfl, RwC.out.2.kept ks (fun e => by have e : rb = lb := e; omega) (fun b hb _ e => by have e : b = lb := e; omega)⟩⟩
end Go.Proofs.YtdkcnigghcbnpaaGreat

/- image's reader: rows of links. -/
namespace Go.Proofs.YtdkcnigghcbnpaaGreat
set_option linter.unusedVariables false
set_option linter.unusedSimpArgs false
open Go.RowKit Go.MapKept

theorem linkE : Elem Tryz.prog 73 103 (.agg #[.string ⟨#[]⟩, .string ⟨#[]⟩, .int .i64 0]) 3 40 := ⟨Tryz.underlying73, by kernel_rfl, rfl, by omega⟩
def linkV (l : List IL) : List Value := l.flatMap fun x => [.string x.1, .string x.2.1, .int .i64 (x.2.2 : Int)]
theorem cL_lt {L r : List UInt8} {x : IL} (h : cL.dec L = some (x, r)) : r.length ≤ L.length := by
  obtain ⟨-, h2⟩ := cL.bwd _ _ _ h
  rw [h2, List.length_append]
  omega
set_option maxRecDepth 100000 in
set_option maxHeartbeats 4000000 in
theorem rowsL_any {w : World} {xb rb Bd : Nat} {L : List UInt8} (hx : Box w xb (.pointer (some ⟨rb, 0, none⟩))) (hne : xb ≠ rb) (h : RdAt w rb Bd L) (hL : L.length ≤ 1000000) :
    Calls Tryz.prog 100 #[.pointer (some ⟨rb, 0, none⟩), .func (.func 101) #[] #[.pointer (some ⟨xb, 0, none⟩)]] w fun e w' => Kept (fun b => b = rb) w w' ∧ ((∃ l r sv, (cRows cL 64 (by decide)).dec L = some (l, r) ∧ e = .returned sv ∧ w'.ownsRow 0 103 3 sv l.length (linkV l) ∧ (∀ b, sv.ownBlock = some b → w.heap.size ≤ b) ∧ RdAt w' rb Bd r) ∨ ((cRows cL 64 (by decide)).dec L = none ∧ e = lackE)) := by
  have N := Lib.hid (rnum_any h hL)
  have HR := Lib.hid (And.intro h.row.lt h.le)
  have HX := Lib.hid (And.intro hx hx.lt)
  clear h hx
  go_enter Tryz.func100, Tryz.ntmps100
  go_wp2_with fail
  refine N.out.mono ?_
  rintro e w1 ⟨k1, ⟨n, r0, hd, rfl, hrd⟩ | ⟨hd, rfl⟩⟩
  · obtain ⟨hn, hr0⟩ := dNum_lt hd
    have K1 := Lib.hid (And.intro k1 (And.intro hd hrd))
    clear k1 hd hrd N
    by_cases hn64 : n ≤ 64
    · have h64 : ¬ (64 : Int) < (n : Int) := by omega
      have hdec : (cRows cL 64 (by decide)).dec L = repD cL n r0 := by
        show (match dNum L with | some (n, r) => if 64 < n then none else repD cL n r | none => none) = _
        rw [K1.out.2.1]
        simp only
        rw [if_neg (by omega)]
      have HD := Lib.hid hdec
      clear hdec
      go_wp2_with fail
      go_loopw [4, 13] (fun s4 s13 wr => ∃ (i : Nat) (l : List IL) (r : List UInt8), i ≤ n ∧ s13 = .int .i64 (i : Int) ∧ repD cL i r0 = some (l, r) ∧ l.length = i ∧ r.length ≤ 1000000 ∧ wr.ownsRow 0 103 3 s4 l.length (linkV l) ∧ (∀ b, s4.ownBlock = some b → w.heap.size ≤ b) ∧ RdAt wr rb Bd r ∧ Kept (fun b => b = rb) w wr) (fun _ s13 _ => n - (intOf s13).toNat)
      case atStart => exact ⟨0, [], r0, Nat.zero_le _, rfl, rfl, rfl, by omega, World.ownsRow_nil _ _ _ _, (fun b e => by cases e), K1.out.2.2, K1.out.1⟩
      case round =>
        obtain ⟨i, l, r, hi, rfl, hrep, hll, hrl, hown, hfr, hrd, hk⟩ := hrel
        have TX := Lib.hid (link_any (HX.out.1.kept hk hne) hne hrd hrl)
        have R := Lib.hid (And.intro hrep (And.intro hown (And.intro hfr (And.intro hrd hk))))
        clear hrep hown hfr hrd hk
        by_cases hlt : i < n
        · have hin : (i : Int) < (n : Int) := by omega
          go_wp2_with fail
          refine TX.out.mono ?_
          rintro e w2 ⟨k2, ⟨s, r', hd, rfl, hrd⟩ | ⟨hd, rfl⟩⟩
          · obtain ⟨sa, sc, rfl, -⟩ := own_form R.out.2.1
            obtain ⟨hrb, hBd⟩ := HR.out
            have hown2 := ownsRow_kept (ownsRow_kept R.out.2.1 k2 (fun b e e' => by have e' : b = rb := e'; have := R.out.2.2.1 b e; omega)) (Kept.one_alloc w2 (.cells #[.string s.1, .string s.2.1, .int .i64 (s.2.2 : Int)] 103)) (fun _ _ e => e)
            rw [hll] at hown2
            have HROW := Lib.hid hown2
            have X := Lib.hid (And.intro k2 (And.intro hd hrd))
            have HLL := Lib.hid (And.intro hll (show i + 1 ≤ 64 from by omega))
            rw [hll]
            clear hown2 k2 hd hrd TX
            go_wp2_with (at_builtin; refine wpList_append_mine rfl _ _ linkE rfl rfl HROW.out (some ⟨w2.heap.size, 0, none⟩) 1 1 [.string s.1, .string s.2.1, .int .i64 (s.2.2 : Int)] rfl rfl (holds_block (heap_alloc_new w2 _)) (by simp [Value.oneCell']) (Nat.le_trans HLL.out.2 (by decide)) (Nat.le_trans (Nat.mul_le_mul_right 40 HLL.out.2) (by decide)) ?_; intro a3 c3 w6 own6 k6 b6; have O6 := Lib.hid (And.intro own6 (And.intro k6 b6)); clear own6 k6 b6)
            have hl2 : (l ++ [s]).length = i + 1 := by rw [List.length_append, HLL.out.1]; rfl
            have hz2 := X.out.1.size
            have hzw := R.out.2.2.2.2.size
            have hza := (Kept.one_alloc w2 (.cells #[.string s.1, .string s.2.1, .int .i64 (s.2.2 : Int)] 103)).size
            have hfr : ∀ b, (Value.slice sa i sc).ownBlock = some b → w.heap.size ≤ b := fun b e => R.out.2.2.1 b (by rw [hll]; exact e)
            have hk6 : Kept (fun b => b = rb) w w6 := ((R.out.2.2.2.2.trans X.out.1 (fun _ _ e => e)).trans (Kept.one_alloc w2 _) (fun _ _ e => e.elim)).trans O6.out.2.1 (fun b hb e => absurd hb (Nat.not_lt.2 (hfr b e)))
            have hrd6 : RdAt w6 rb Bd r' := (X.out.2.2.keep (Kept.one_alloc w2 (.cells #[.string s.1, .string s.2.1, .int .i64 (s.2.2 : Int)] 103))).kept O6.out.2.1 (fun e => by have := hfr rb e; omega) (fun b hb _ e => by have := hfr b e; omega)
            refine ⟨⟨i + 1, l ++ [s], r', hlt, rfl, ?_, hl2, Nat.le_trans (cL_lt X.out.2.1) hrl, ?_, ?_, hrd6, hk6⟩, by simp only [intOf]; omega⟩
            · rw [repD_snoc cL i r0 l r R.out.1]
              rw [X.out.2.1]
            · rw [hl2]
              rw [show linkV (l ++ [s]) = linkV l ++ [.string s.1, .string s.2.1, .int .i64 (s.2.2 : Int)] from by simp [linkV]]
              exact O6.out.1
            · intro b e
              rcases O6.out.2.2 with ho | ho
              · exact hfr b (ho.symm.trans e)
              · have := Option.some.inj (ho.symm.trans e)
                omega
          · have X := Lib.hid (And.intro k2 hd)
            clear k2 hd
            simp only [lackE]
            go_wp2_with fail
            refine ⟨rfl, R.out.2.2.2.2.trans X.out.1 (fun _ _ e => e), .inr ⟨?_, rfl⟩⟩
            rw [HD.out]
            exact repD_stop cL R.out.1 X.out.2 n hlt
        · obtain rfl : i = n := by omega
          go_wp2_with fail
          go_ret
          refine ⟨R.out.2.2.2.2, .inl ⟨l, r, _, by rw [HD.out]; exact R.out.1, rfl, R.out.2.1, R.out.2.2.1, R.out.2.2.2.1⟩⟩
    · have h64 : (64 : Int) < (n : Int) := by omega
      have HN := Lib.hid hn64
      clear hn64
      go_wp2_with fail
      refine ⟨rfl, K1.out.1, .inr ⟨?_, rfl⟩⟩
      show (match dNum L with | some (n, r) => if 64 < n then none else repD cL n r | none => none) = none
      rw [K1.out.2.1]
      simp only
      rw [if_pos (by have := HN.out; omega)]
  · have K := Lib.hid (And.intro k1 hd)
    clear k1 hd
    simp only [lackE]
    go_wp2_with fail
    refine ⟨rfl, K.out.1, .inr ⟨?_, rfl⟩⟩
    show (match dNum L with | some (n, r) => if 64 < n then none else repD cL n r | none => none) = none
    rw [K.out.2]
end Go.Proofs.YtdkcnigghcbnpaaGreat
