/- image's writer: numbers and texts. -/
import Derived.Test.YtdkcnigghcbnpaaGreatImgD
import Derived.Test.YtdkcnigghcbnpaaGreatGenC
import Derived.Test.YtdkcnigghcbnpaaGreatWorlds
import Derived.Test.YtdkcnigghcbnpaaGreatAppStr
import Derived.Test.YtdkcnigghcbnpaaGreatGenA
import Derived.IntWalk
import Derived.Test.YtdkcnigghcbnpaaGreatChecked
import Derived.Lib.Hide
import Derived.WalkKit
import Derived.ProofKit
import Derived.WalkLawsBesides
import Derived.Deep.CutBlock
import Derived.Laws.IdiomStrings
namespace Go.Proofs.YtdkcnigghcbnpaaGreat
set_option linter.unusedVariables false
set_option linter.unusedSimpArgs false
open Go.RowKit Go.MapKept

theorem imgE : Elem Tryz.prog 28 5 (.int .u8 0) 1 1 := ⟨Tryz.underlying28, by kernel_rfl, rfl, by omega⟩
/-- Bytes as cells. -/
def u8L (L : List UInt8) : List Value := L.map fun u => .int .u8 (u.toNat : Int)
theorem u8L_len (L : List UInt8) : (u8L L).length = L.length := by simp [u8L]
theorem u8L_append (A B : List UInt8) : u8L (A ++ B) = u8L A ++ u8L B := by simp [u8L]
/-- A writer at block wb: its bytes. -/
structure WrAt (w : World) (wb : Nat) (sv : Value) (L : List UInt8) : Prop where
  row : RowAt w wb 1
  c : w.cell? ⟨wb, 0, none⟩ = some sv
  own : w.ownsRow 0 5 1 sv L.length (u8L L)
  ne : ∀ b, sv.ownBlock = some b → b ≠ wb
theorem WrAt.kept {S : Nat → Prop} {w w' : World} {wb : Nat} {sv : Value} {L : List UInt8} (h : WrAt w wb sv L) (k : Kept S w w') (h1 : ¬ S wb) (h2 : ∀ b, sv.ownBlock = some b → ¬ S b) : WrAt w' wb sv L :=
  ⟨h.row.kept k h1, (k.cell (p := ⟨wb, 0, none⟩) h.row.lt h1).trans h.c, ownsRow_kept h.own k h2, h.ne⟩
/-- Ints in memory. -/
def IntsAt (w : World) (a : Option Addr) (n : Nat) (z : Nat → Nat) (Y : Nat → Prop) : Prop := ∀ i, i < n → ∃ b o, a = some ⟨b, o, none⟩ ∧ b < w.heap.size ∧ w.cell? ⟨b, o + i, none⟩ = some (.int .i64 (z i : Int)) ∧ ¬ Y b
def numsL (n : Nat) (z : Nat → Nat) : List UInt8 := (List.range n).flatMap fun i => numL (z i)
theorem numsL_succ (n : Nat) (z : Nat → Nat) : numsL (n + 1) z = numsL n z ++ numL (z n) := by simp [numsL, List.range_succ]
theorem numsL_len (n : Nat) (z : Nat → Nat) : (numsL n z).length = 4 * n := by
  induction n with
  | zero => rfl
  | succ n ih => rw [numsL_succ, List.length_append, ih, numL_len]; omega
/-- A number's cells, as the shifts have them. -/
theorem u8L_num {Z : Nat} (h : Z < 4294967296) : u8L (numL Z) = [.int .u8 ((Z : Int) / 16777216), .int .u8 ((Z : Int) / 65536 % 256), .int .u8 ((Z : Int) / 256 % 256), .int .u8 ((Z : Int) % 256)] := by
  unfold u8L numL
  simp only [List.map_cons, List.map_nil, UInt8.toNat_ofNat', List.cons.injEq, Value.int.injEq, true_and, and_true]
  refine ⟨?_, ?_, ?_, ?_⟩ <;> omega
set_option maxRecDepth 100000 in
set_option maxHeartbeats 4000000 in
theorem numbers_any {w : World} {wb : Nat} {sv : Value} {L : List UInt8} {a : Option Addr} {n c : Nat} {z : Nat → Nat} (h : WrAt w wb sv L) (hz : IntsAt w a n z (fun b => b = wb ∨ sv.ownBlock = some b)) (hzs : ∀ i, i < n → z i < 4294967296) (hn : n ≤ 100) (hL : L.length ≤ 100000000) :
    Calls Tryz.prog 54 #[.pointer (some ⟨wb, 0, none⟩), .slice a n c] w fun e w' => e = .returned (.tuple #[]) ∧ ∃ sv', WrAt w' wb sv' (L ++ numsL n z) ∧ Kept (fun b => b = wb ∨ sv.ownBlock = some b) w w' ∧ ∀ b, sv'.ownBlock = some b → sv.ownBlock = some b ∨ w.heap.size ≤ b := by
  have H := Lib.hid (And.intro h (And.intro hz hzs))
  clear h hz hzs
  go_enter Tryz.func54, Tryz.ntmps54
  go_wp2_with fail
  go_loopw [5, 8] (fun s5 s8 wr => ∃ (i : Nat) (sv' : Value), i ≤ n ∧ s8 = .int .i64 (i : Int) ∧ WrAt wr wb sv' (L ++ numsL i z) ∧ Kept (fun b => b = wb ∨ sv.ownBlock = some b) w wr ∧ ∀ b, sv'.ownBlock = some b → sv.ownBlock = some b ∨ w.heap.size ≤ b) (fun _ s8 _ => n - (intOf s8).toNat)
  case atStart => exact ⟨0, sv, Nat.zero_le _, rfl, by simpa [numsL] using H.out.1, Kept.refl _ _, fun b e => .inl e⟩
  case round =>
    obtain ⟨i, sv', hi, rfl, hW, hk, hf⟩ := hrel
    have R := Lib.hid (And.intro hW (And.intro hk hf))
    by_cases hlt : i < n
    · obtain ⟨b, o, rfl, hb, hc, hY⟩ := H.out.2.1 i hlt
      have d0 : wr.cell? ⟨b, o + i, none⟩ = some (.int .i64 (z i : Int)) := (hk.cell (p := ⟨b, o + i, none⟩) hb hY).trans hc
      have hzi := H.out.2.2 i hlt
      obtain ⟨Z, hZ⟩ : ∃ Z, z i = Z := ⟨_, rfl⟩
      rw [hZ] at d0 hzi
      have hin : (i : Int) < (n : Int) := by omega
      obtain ⟨sa, sc, rfl, -⟩ := own_form hW.own
      obtain ⟨m, hm⟩ : ∃ m, (L ++ numsL i z).length = m := ⟨_, rfl⟩
      have hm2 : m ≤ 100000400 := by rw [← hm, List.length_append, numsL_len]; omega
      have hcw := hW.c
      rw [hm] at hcw
      have HW := Lib.hid hW
      have HM := Lib.hid (And.intro hm hm2)
      have HZ := Lib.hid (And.intro hZ hzi)
      have HROW := Lib.hid (show (wr.alloc (.cells #[.int .u8 ((Z : Int) / 16777216), .int .u8 ((Z : Int) / 65536 % 256), .int .u8 ((Z : Int) / 256 % 256), .int .u8 ((Z : Int) % 256)] 5)).ownsRow 0 5 1 (.slice sa m sc) m (u8L (L ++ numsL i z)) from by
        have h := ownsRow_kept hW.own (Kept.one_alloc wr (.cells #[.int .u8 ((Z : Int) / 16777216), .int .u8 ((Z : Int) / 65536 % 256), .int .u8 ((Z : Int) / 256 % 256), .int .u8 ((Z : Int) % 256)] 5)) (fun _ _ e => e)
        rw [hm] at h
        exact h)
      clear hW hk hf hc hm hZ
      go_wp2_with (at_builtin; refine wpList_append_mine rfl _ _ imgE rfl rfl HROW.out (some ⟨wr.heap.size, 0, none⟩) 4 4 [.int .u8 ((Z : Int) / 16777216), .int .u8 ((Z : Int) / 65536 % 256), .int .u8 ((Z : Int) / 256 % 256), .int .u8 ((Z : Int) % 256)] rfl rfl (holds_block (heap_alloc_new wr _)) (by simp [Value.oneCell']) (Nat.le_trans (Nat.add_le_add_right HM.out.2 4) (by decide)) (by rw [Nat.mul_one]; exact Nat.le_trans (Nat.add_le_add_right HM.out.2 4) (by decide)) ?_; intro a3 c3 w6 own6 k6 b6; have hne6 : ¬ (Value.slice sa m sc).ownBlock = some wb := (fun e => HW.out.ne wb (by rw [HM.out.1]; exact e) rfl); have hc6 : w6.cell? ⟨wb, 0, none⟩ = some (.slice sa m sc) := ((k6.cell (p := ⟨wb, 0, none⟩) (Nat.lt_of_lt_of_le HW.out.row.lt (Kept.one_alloc wr _).size) hne6).trans ((Kept.one_alloc wr _).cell (p := ⟨wb, 0, none⟩) HW.out.row.lt (fun e => e))).trans hcw; have hf6 : w6.frozen? ⟨wb, 0, none⟩ = false := ((HW.out.row.kept (Kept.one_alloc wr _) (fun e => e)).kept k6 hne6).frozen 0; have O6 := Lib.hid (And.intro own6 (And.intro k6 b6)); clear own6 k6 b6 hne6)
      have hm := HM.out.1
      have hlen : (L ++ numsL (i + 1) z).length = m + 4 := by
        rw [numsL_succ, ← List.append_assoc, List.length_append, hm, numL_len]
      have hcells : u8L (L ++ numsL (i + 1) z) = u8L (L ++ numsL i z) ++ [.int .u8 ((Z : Int) / 16777216), .int .u8 ((Z : Int) / 65536 % 256), .int .u8 ((Z : Int) / 256 % 256), .int .u8 ((Z : Int) % 256)] := by
        rw [numsL_succ, ← List.append_assoc, u8L_append, HZ.out.1, u8L_num HZ.out.2]
      have hzr := (Kept.one_alloc wr (.cells #[.int .u8 ((Z : Int) / 16777216), .int .u8 ((Z : Int) / 65536 % 256), .int .u8 ((Z : Int) / 256 % 256), .int .u8 ((Z : Int) % 256)] 5)).size
      have hold : ∀ b, (Value.slice sa m sc).ownBlock = some b → sv.ownBlock = some b ∨ w.heap.size ≤ b := fun b e => R.out.2.2 b (by rw [hm]; exact e)
      have hwbl := R.out.1.row.lt
      have hwz := R.out.2.1.size
      have hnew : ∀ b, (Value.slice a3 (m + 4) c3).ownBlock = some b → b ≠ wb ∧ (sv.ownBlock = some b ∨ w.heap.size ≤ b) := fun b e => by
        rcases O6.out.2.2 with ho | ho
        · have h1 := ho.symm.trans e
          exact ⟨HW.out.ne b (by rw [hm]; exact h1), hold b h1⟩
        · have h1 := Option.some.inj (ho.symm.trans e)
          exact ⟨by omega, .inr (by omega)⟩
      have k6w : Kept (fun b => b = wb ∨ sv.ownBlock = some b) w w6 := (R.out.2.1.trans (Kept.one_alloc wr _) (fun _ _ e => e.elim)).trans O6.out.2.1 (fun b hb e => (hold b e).elim (fun h => .inr h) (fun h => absurd hb (Nat.not_lt.2 h)))
      have hrow6 := (HW.out.row.kept (Kept.one_alloc wr (.cells #[.int .u8 ((Z : Int) / 16777216), .int .u8 ((Z : Int) / 65536 % 256), .int .u8 ((Z : Int) / 256 % 256), .int .u8 ((Z : Int) % 256)] 5)) (fun e => e)).kept O6.out.2.1 (fun e => HW.out.ne wb (by rw [hm]; exact e) rfl)
      refine ⟨⟨i + 1, .slice a3 (m + 4) c3, hlt, rfl, ⟨hrow6.setCell _ _, cell_set_same hrow6 (by omega) _, ?_, fun b e => (hnew b e).1⟩, k6w.trans (Kept.one_set w6 ⟨wb, 0, none⟩ _) (fun b _ e => .inl e), fun b e => (hnew b e).2⟩, ?_⟩
      · rw [hlen, hcells]
        exact ownsRow_kept O6.out.1 (Kept.one_set w6 ⟨wb, 0, none⟩ _) (fun b e e' => (hnew b e).1 e')
      · simp only [intOf]
        omega
    · obtain rfl : i = n := by omega
      clear hW hk hf
      go_wp2_with fail
      go_end0
      exact ⟨rfl, sv', R.out⟩
theorem wpList_append_str {P : Program} {t u e : TypeId} {w : World} {v : Value} {n : Nat} {xs : List Value} {ops : Array Oper} {rest : List Oper} {o : Oper} {a : Act} {Q : Exit → Act → World → Prop} (hgd : o.guard = none) (s x : Operand) (E : Elem P t e (.int .u8 0) 1 1) (hu : P.underlying u = some .string)
    (ho : o.op = .call { callee := .builtin .append, args := #[s, x], argTypes := #[t, u] }) (hs : a.eval s = v) (hown : w.ownsRow 0 e 1 v n xs) (k : ByteArray) (hx : a.eval x = .string k)
    (h63 : n + k.size ≤ maxLen) (hbytes : n + k.size ≤ 140737488355328)
    (h : ∀ a' c' w', w'.ownsRow 0 e 1 (.slice a' (n + k.size) c') (n + k.size) (xs ++ Lib.strCells k) → Kept (fun b => v.ownBlock = some b) w w' → ((Value.slice a' (n + k.size) c').ownBlock = v.ownBlock ∨ (Value.slice a' (n + k.size) c').ownBlock = some w.heap.size) →
      wpList P ops Q rest (a.put o.dst (.slice a' (n + k.size) c')) w') : wpList P ops Q (o :: rest) a w := by
  refine wpList_plain hgd fun _ hK => ?_
  obtain ⟨a', c', w', hr, h2, h3, h4⟩ := run_append_mine_str (P := P) (ty := o.type) E hu hown k h63 hbytes
  unfold Oper.wp execOp
  simp only [ho, resolve, invoke, builtin, Sem.run_bind, Sem.run_pure, Result.andThen_ok, List.map_toArray, List.map_cons, List.map_nil, hs, hx, hr]
  exact hK _ _ (h a' c' w' h2 h3 h4)
theorem strCells_u8 (s : ByteArray) : Lib.strCells s = u8L s.data.toList := by
  unfold Lib.strCells u8L
  simp
/-- Texts in memory. -/
def TextsAt (w : World) (a : Option Addr) (n : Nat) (ss : Nat → ByteArray) (Y : Nat → Prop) : Prop := ∀ i, i < n → ∃ b o, a = some ⟨b, o, none⟩ ∧ b < w.heap.size ∧ w.cell? ⟨b, o + i, none⟩ = some (.string (ss i)) ∧ ¬ Y b
def textsL (n : Nat) (ss : Nat → ByteArray) : List UInt8 := (List.range n).flatMap fun i => txtL (ss i)
theorem textsL_succ (n : Nat) (ss : Nat → ByteArray) : textsL (n + 1) ss = textsL n ss ++ txtL (ss n) := by simp [textsL, List.range_succ]
theorem textsL_le {n : Nat} {ss : Nat → ByteArray} {M : Nat} (h : ∀ i, i < n → (ss i).size ≤ M) : (textsL n ss).length ≤ n * (M + 4) := by
  induction n with
  | zero => simp [textsL]
  | succ n ih =>
    have h1 := ih (fun i hi => h i (by omega))
    have h2 := h n (by omega)
    have h3 : (ss n).data.toList.length = (ss n).size := by simp
    rw [textsL_succ, List.length_append, Nat.succ_mul]
    unfold txtL
    rw [List.length_append, numL_len, h3]
    omega
set_option maxRecDepth 100000 in
set_option maxHeartbeats 4000000 in
theorem texts_any {w : World} {wb : Nat} {sv : Value} {L : List UInt8} {a : Option Addr} {n c : Nat} {ss : Nat → ByteArray} (h : WrAt w wb sv L) (hz : TextsAt w a n ss (fun b => b = wb ∨ sv.ownBlock = some b)) (hzs : ∀ i, i < n → (ss i).size ≤ 100000) (hn : n ≤ 100) (hL : L.length ≤ 50000000) :
    Calls Tryz.prog 55 #[.pointer (some ⟨wb, 0, none⟩), .slice a n c] w fun e w' => e = .returned (.tuple #[]) ∧ ∃ sv', WrAt w' wb sv' (L ++ textsL n ss) ∧ Kept (fun b => b = wb ∨ sv.ownBlock = some b) w w' ∧ ∀ b, sv'.ownBlock = some b → sv.ownBlock = some b ∨ w.heap.size ≤ b := by
  have H := Lib.hid (And.intro h (And.intro hz hzs))
  clear h hz hzs
  go_enter Tryz.func55, Tryz.ntmps55
  go_wp2_with fail
  go_loopw [5, 8] (fun s5 s8 wr => ∃ (i : Nat) (sv' : Value), i ≤ n ∧ s8 = .int .i64 (i : Int) ∧ WrAt wr wb sv' (L ++ textsL i ss) ∧ Kept (fun b => b = wb ∨ sv.ownBlock = some b) w wr ∧ ∀ b, sv'.ownBlock = some b → sv.ownBlock = some b ∨ w.heap.size ≤ b) (fun _ s8 _ => n - (intOf s8).toNat)
  case atStart => exact ⟨0, sv, Nat.zero_le _, rfl, by simpa [textsL] using H.out.1, Kept.refl _ _, fun b e => .inl e⟩
  case round =>
    obtain ⟨i, sv', hi, rfl, hW, hk, hf⟩ := hrel
    have R := Lib.hid (And.intro hW (And.intro hk hf))
    by_cases hlt : i < n
    · obtain ⟨b, o, rfl, hb, hc, hY⟩ := H.out.2.1 i hlt
      have d0 : wr.cell? ⟨b, o + i, none⟩ = some (.string (ss i)) := (hk.cell (p := ⟨b, o + i, none⟩) hb hY).trans hc
      have hzi := H.out.2.2 i hlt
      obtain ⟨Z, hZ⟩ : ∃ Z, ss i = Z := ⟨_, rfl⟩
      rw [hZ] at d0 hzi
      have hin : (i : Int) < (n : Int) := by omega
      have hlen : (L ++ textsL i ss).length ≤ 70000000 := by
        have h1 := textsL_le (n := i) (M := 100000) (fun j hj => H.out.2.2 j (by omega))
        have h2 : i * (100000 + 4) ≤ 100 * 100004 := Nat.mul_le_mul (by omega) (Nat.le_refl _)
        rw [List.length_append]
        omega
      have HLEN := Lib.hid hlen
      have HZ := Lib.hid (And.intro hZ hzi)
      clear hk hf hc hZ hlen
      have hwr := hW.row.lt
      have hW1 := hW.kept (Kept.one_alloc wr (.cells #[.int .i64 (Z.size : Int)] 3)) (fun e => e) (fun _ _ e => e)
      have hsvl : ∀ b, sv'.ownBlock = some b → b < wr.heap.size := fun b e => (hW.own.lt b e).2
      have NUM := Lib.hid (numbers_any (a := some ⟨wr.heap.size, 0, none⟩) (n := 1) (c := 1) (z := fun _ => Z.size) hW1 (fun j hj => ⟨wr.heap.size, 0, rfl, by simp, by
          have : j = 0 := by omega
          subst this
          exact World.cell?_alloc_new wr _ _ 0, fun e => e.elim (fun e => by omega) (fun e => by have := hsvl _ e; omega)⟩) (fun _ _ => by omega) (by omega) (Nat.le_trans HLEN.out (by decide)))
      clear hW hW1 hsvl hwr
      go_wp2_with fail
      refine NUM.out.mono ?_
      rintro e w1 ⟨rfl, sv2, hW2, k2, hf2⟩
      obtain ⟨sa, sc, rfl, -⟩ := own_form hW2.own
      obtain ⟨L1, hL1⟩ : ∃ L1, L ++ textsL i ss ++ numsL 1 (fun _ => Z.size) = L1 := ⟨_, rfl⟩
      have hL1e : L1 = L ++ textsL i ss ++ numL Z.size := by rw [← hL1]; rfl
      rw [hL1] at hW2
      obtain ⟨m, hm⟩ : ∃ m, L1.length = m := ⟨_, rfl⟩
      have hm2 : m ≤ 70000004 := by rw [← hm, hL1e, List.length_append, numL_len]; have := HLEN.out; omega
      have hcw := hW2.c
      have hrow1 := hW2.own
      rw [hm] at hrow1
      rw [hm] at hcw
      rw [hL1, hm] at hf2
      have HW := Lib.hid (And.intro hW2 (And.intro k2 hf2))
      have HM := Lib.hid (And.intro hm (And.intro hm2 hL1e))
      have HROW := Lib.hid hrow1
      clear hW2 k2 hf2 hm hL1 hL1e NUM hrow1
      go_wp2_with (at_builtin; refine wpList_append_str rfl _ _ imgE Tryz.underlying9 rfl rfl HROW.out Z rfl (Nat.le_trans (Nat.add_le_add HM.out.2.1 HZ.out.2) (by decide)) (Nat.le_trans (Nat.add_le_add HM.out.2.1 HZ.out.2) (by decide)) ?_; intro a3 c3 w6 own6 k6 b6; have hne6 : ¬ (Value.slice sa m sc).ownBlock = some wb := (fun e => HW.out.1.ne wb (by rw [HM.out.1]; exact e) rfl); have hc6 : w6.cell? ⟨wb, 0, none⟩ = some (.slice sa m sc) := (k6.cell (p := ⟨wb, 0, none⟩) HW.out.1.row.lt hne6).trans hcw; have hf6 : w6.frozen? ⟨wb, 0, none⟩ = false := (HW.out.1.row.kept k6 hne6).frozen 0; have O6 := Lib.hid (And.intro own6 (And.intro k6 b6)); clear own6 k6 b6 hne6)
      have hm := HM.out.1
      have htx : L ++ textsL (i + 1) ss = L1 ++ Z.data.toList := by
        rw [textsL_succ, HZ.out.1, HM.out.2.2]
        unfold txtL
        simp only [List.append_assoc]
      have hZl : Z.data.toList.length = Z.size := by simp
      have hlen : (L ++ textsL (i + 1) ss).length = m + Z.size := by rw [htx, List.length_append, hm, hZl]
      have hcells : u8L (L ++ textsL (i + 1) ss) = u8L L1 ++ Lib.strCells Z := by rw [htx, u8L_append, strCells_u8]
      have hwz := R.out.2.1.size
      have hz2 := HW.out.2.1.size
      have hza := (Kept.one_alloc wr (.cells #[.int .i64 (Z.size : Int)] 3)).size
      have hold : ∀ b, (Value.slice sa m sc).ownBlock = some b → sv.ownBlock = some b ∨ w.heap.size ≤ b := fun b e => by
        rcases HW.out.2.2 b e with h | h
        · exact R.out.2.2 b h
        · exact .inr (by omega)
      have hwbl := HW.out.1.row.lt
      have hnew : ∀ b, (Value.slice a3 (m + Z.size) c3).ownBlock = some b → b ≠ wb ∧ (sv.ownBlock = some b ∨ w.heap.size ≤ b) := fun b e => by
        rcases O6.out.2.2 with ho | ho
        · have h1 := ho.symm.trans e
          exact ⟨HW.out.1.ne b (by rw [hm]; exact h1), hold b h1⟩
        · have h1 := Option.some.inj (ho.symm.trans e)
          exact ⟨by omega, .inr (by omega)⟩
      have k1w : Kept (fun b => b = wb ∨ sv.ownBlock = some b) w w1 := (R.out.2.1.trans (Kept.one_alloc wr _) (fun _ _ e => e.elim)).trans HW.out.2.1 (fun b hb e => e.elim .inl (fun e => (R.out.2.2 b e).elim (fun h => .inr h) (fun h => absurd hb (Nat.not_lt.2 h))))
      have k6w : Kept (fun b => b = wb ∨ sv.ownBlock = some b) w w6 := k1w.trans O6.out.2.1 (fun b hb e => (hold b e).elim (fun h => .inr h) (fun h => absurd hb (Nat.not_lt.2 h)))
      have hrow6 := HW.out.1.row.kept O6.out.2.1 (fun e => HW.out.1.ne wb (by rw [hm]; exact e) rfl)
      refine ⟨⟨i + 1, .slice a3 (m + Z.size) c3, hlt, rfl, ⟨hrow6.setCell _ _, cell_set_same hrow6 (by omega) _, ?_, fun b e => (hnew b e).1⟩, k6w.trans (Kept.one_set w6 ⟨wb, 0, none⟩ _) (fun b _ e => .inl e), fun b e => (hnew b e).2⟩, ?_⟩
      · rw [hlen, hcells]
        exact ownsRow_kept O6.out.1 (Kept.one_set w6 ⟨wb, 0, none⟩ _) (fun b e e' => (hnew b e).1 e')
      · simp only [intOf]
        omega
    · obtain rfl : i = n := by omega
      clear hW hk hf
      go_wp2_with fail
      go_end0
      exact ⟨rfl, sv', R.out⟩
end Go.Proofs.YtdkcnigghcbnpaaGreat
