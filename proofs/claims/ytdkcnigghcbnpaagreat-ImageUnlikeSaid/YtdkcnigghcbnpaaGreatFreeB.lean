/- A row of bytes that may be written: appended to, a byte of it turned. -/
import Derived.Test.YtdkcnigghcbnpaaGreatSesA
import Derived.Test.YtdkcnigghcbnpaaGreatScanA
import Derived.Test.YtdkcnigghcbnpaaGreatTexts
import Derived.Deep.AppendSrc
namespace Go.Proofs.YtdkcnigghcbnpaaGreat
set_option linter.unusedVariables false
set_option linter.unusedSimpArgs false
open Go.RowKit Go.MapKept

/-- Bytes in a row whose cells are all there, none of them frozen. -/
structure FreeB (w : World) (g T c : Nat) (b : ByteArray) : Prop where
  bytes : BytesAt w (some ⟨g, 0, none⟩) T b
  le : T ≤ c
  lt : g < w.heap.size
  there : ∀ j, j < c → (w.cell? ⟨g, j, none⟩).isSome = true ∧ w.frozen? ⟨g, j, none⟩ = false
theorem FreeB.kept {S : Nat → Prop} {w w' : World} {g T c : Nat} {b : ByteArray} (h : FreeB w g T c b) (k : Kept S w w') (hn : ¬ S g) : FreeB w' g T c b :=
  ⟨h.bytes.kept k (fun _ _ e => by cases e; exact hn), h.le, Nat.lt_of_lt_of_le h.lt k.size, fun j hj => ⟨by rw [k.cell (p := ⟨g, j, none⟩) h.lt hn]; exact (h.there j hj).1, by rw [k.frozen (p := ⟨g, j, none⟩) h.lt hn]; exact (h.there j hj).2⟩⟩
theorem FreeB.cell {w : World} {g T c : Nat} {b : ByteArray} (h : FreeB w g T c b) {i : Nat} (hi : i < T) : w.cell? ⟨g, i, none⟩ = some (.int .u8 ((nums b).getD i 0)) := by
  obtain ⟨g', o', e, -, hc⟩ := h.bytes.2.2 i hi
  cases e
  rw [Nat.zero_add] at hc
  exact hc
theorem free_conv (w : World) (s : ByteArray) {C : Nat} (hC : s.size ≤ C) (e : TypeId) : FreeB (w.alloc (.cells (bytesRow s C) e ((bytesRow s C).size, (bytesRow s C).size + 1))) w.heap.size s.size C s := by
  have hsz : (bytesRow s C).size = C := by
    unfold bytesRow
    rw [Array.size_append, Array.size_map, Array.size_replicate]
    have : s.data.size = s.size := rfl
    omega
  refine ⟨bytes_row (Twin.refl _) rfl, hC, by simp, fun j hj => ⟨?_, ?_⟩⟩
  · rw [World.cell?_alloc_mark w (bytesRow s C) e _ j, Array.getElem?_eq_getElem (by omega)]
    rfl
  · have hb : (w.alloc (.cells (bytesRow s C) e ((bytesRow s C).size, (bytesRow s C).size + 1))).heap[w.heap.size]? = some (.cells (bytesRow s C) e ((bytesRow s C).size, (bytesRow s C).size + 1)) := heap_alloc_new w _
    simp only [World.frozen?, hb, Bool.and_eq_false_iff, decide_eq_false_iff_not]
    left
    omega
theorem nums_append (a b : ByteArray) : nums (a ++ b) = nums a ++ nums b := by
  unfold nums
  rw [ByteArray.data_append, Array.toList_append, List.map_append]
theorem byteVs_append (a b : ByteArray) : byteVs (a ++ b) = byteVs a ++ byteVs b := by
  unfold byteVs
  rw [nums_append, List.map_append]
theorem bytes_src {W : World} {t e' : TypeId} (hk : Tryz.prog.underlying t = some (.slice e')) {a : Option Addr} {m c : Nat} {k : ByteArray} (h : BytesAt W a m k) : Src Tryz.prog 1 t (.slice a m c) m (byteVs k) W := by
  cases a with
  | some ad => exact Src.ofSlice W hk ad m c (byteVs k) (by rw [byteVs_len, h.1, Nat.mul_one]) (fun j u hj => by
      obtain ⟨ad', e, hc⟩ := h.src j u hj
      cases e
      exact hc) (byteVs_one k)
  | none =>
    have hm : m = 0 := by
      rcases Nat.eq_zero_or_pos m with h0 | h0
      · exact h0
      · obtain ⟨_, _, e, -⟩ := h.2.2 0 h0
        cases e
    subst hm
    have hk0 : byteVs k = [] := List.eq_nil_of_length_eq_zero (by rw [byteVs_len, ← h.1])
    rw [hk0]
    exact Src.ofNil W hk c
theorem bytesAt_list {w : World} {g T : Nat} {b : ByteArray} (hT : T = b.size) (hg : g < w.heap.size) (h : ∀ j u, (byteVs b)[j]? = some u → w.cell? ⟨g, j, none⟩ = some u) : BytesAt w (some ⟨g, 0, none⟩) T b :=
  ⟨hT, fun _ ad e => by cases e; exact ⟨_, _, rfl⟩, fun i hi => ⟨g, 0, rfl, hg, by rw [Nat.zero_add]; exact h i _ (byteVs_at b (by omega))⟩⟩
/-- append. -/
theorem app_free {W : World} {g T c m ca : Nat} {b k : ByteArray} {a : Option Addr} {ty : TypeId} (h : FreeB W g T c b) (hk : BytesAt W a m k) (hbig : T + m ≤ 4000000) :
    ∃ g' c' w', (Builtin.append_ #[28, 28] ty #[.slice (some ⟨g, 0, none⟩) T c, .slice a m ca]).run Tryz.prog W = .ok (.slice (some ⟨g', 0, none⟩) (T + m) c') w' ∧ FreeB w' g' (T + m) c' (b ++ k) ∧ (g' = g ∨ g' = W.heap.size) ∧ Kept (fun x => x = g) W w' := by
  obtain ⟨i, hi, hz0, hz1, hz2⟩ := info_parts byteE.hi
  have hT : T = b.size := h.bytes.1
  have hm : m = k.size := hk.1
  have hs := bytes_src (c := ca) (byteE.ht) hk
  rw [← hz1] at hs
  have hsz : T + m = (b ++ k).size := by rw [ByteArray.size_append]; omega
  by_cases hroom : T + m ≤ c
  · have hrun := run_append_room_src (P := Tryz.prog) W 28 28 ty 5 i byteE.ht hi g 0 T c _ m (byteVs k) hs hroom
      (fun j hj => by rw [hz1, Nat.mul_one, Nat.zero_add]; rw [byteVs_len] at hj; exact (h.there _ (by omega)).1)
      (fun j hj => by rw [hz1, Nat.mul_one, Nat.zero_add]; rw [byteVs_len] at hj; exact (h.there _ (by omega)).2)
    rw [hz1, Nat.mul_one, Nat.zero_add] at hrun
    have hks := kept_setCells g (byteVs k) T W
    have hin := World.cell?_setCells_in g (byteVs k) T W (fun j hj => by rw [byteVs_len] at hj; exact (h.there _ (by omega)).1)
    refine ⟨g, c, _, hrun, ⟨bytesAt_list hsz (Nat.lt_of_lt_of_le h.lt hks.size) fun j u hj => ?_, hroom, Nat.lt_of_lt_of_le h.lt hks.size, fun j hj => ⟨?_, ?_⟩⟩, .inl rfl, hks⟩
    · rw [byteVs_append] at hj
      by_cases hjT : j < T
      · rw [List.getElem?_append_left (by rw [byteVs_len]; omega)] at hj
        rw [World.cell?_setCells_out g _ _ _ _ (fun _ _ => .inl hjT)]
        obtain ⟨_, e, hc⟩ := h.bytes.src j u hj
        cases e
        rw [Addr.add_lit, Nat.zero_add] at hc
        exact hc
      · rw [List.getElem?_append_right (by rw [byteVs_len]; omega), byteVs_len, ← hT] at hj
        obtain ⟨hlt, e⟩ := List.getElem?_eq_some_iff.1 hj
        have := hin (j - T) hlt
        rw [show T + (j - T) = j by omega] at this
        rw [this, e]
    · by_cases hjT : T ≤ j ∧ j < T + m
      · have := hin (j - T) (by rw [byteVs_len]; omega)
        rw [show T + (j - T) = j by omega] at this
        rw [this]
        rfl
      · rw [World.cell?_setCells_out g _ _ _ _ (fun _ _ => by show j < T ∨ T + _ ≤ j; rw [byteVs_len]; omega)]
        exact (h.there j hj).1
    · rw [World.frozen?_setCells]
      exact (h.there j hj).2
  · have hold : (Builtin.firstCells i.size T (.slice (some ⟨g, 0, none⟩) T c)).run Tryz.prog W.drew = .ok (byteVs b).toArray W.drew := by
      rw [hz1]
      refine run_firstCells_some W.drew 1 T ⟨g, 0, none⟩ T c (byteVs b) (by rw [byteVs_len]; omega) (fun j u hj => ?_)
      obtain ⟨_, e, hc⟩ := h.bytes.src j u hj
      cases e
      exact hc
    have hrun := run_append_grow_src (P := Tryz.prog) W 28 28 ty 5 i (.int .u8 0) byteE.ht hi hz0 (some ⟨g, 0, none⟩) T c (byteVs b) hold _ m (byteVs k) hs (by omega) (by omega) (growslice_fits (by omega) (by rw [hz2]; omega))
    have hge := grownCap_ge W (T + m) c 5
    rw [← byteVs_append] at hrun
    refine ⟨W.heap.size, _, _, hrun, ?_, .inr rfl, (Kept.one_alloc W _).mono (fun _ _ e => e.elim) |>.twin ⟨rfl, rfl, rfl, rfl⟩⟩
    have hcell : ∀ j, (W.drew.alloc (.cells ((byteVs (b ++ k)).toArray ++ Builtin.zeroCells (Value.int .u8 0).cells (grownCap W (T + m) c 5 - (T + m))) 5)).cell? ⟨W.heap.size, j, none⟩ = ((byteVs (b ++ k)).toArray ++ Builtin.zeroCells (Value.int .u8 0).cells (grownCap W (T + m) c 5 - (T + m)))[j]? := fun j => World.cell?_alloc_new W.drew _ _ j
    have hlt : W.heap.size < (W.drew.alloc (.cells ((byteVs (b ++ k)).toArray ++ Builtin.zeroCells (Value.int .u8 0).cells (grownCap W (T + m) c 5 - (T + m))) 5)).heap.size := by simp
    refine ⟨bytesAt_list hsz hlt fun j u hj => ?_, hge, hlt, fun j hj => ⟨?_, World.frozen?_alloc_new W.drew _ _ j⟩⟩
    · rw [hcell]
      have hl := (List.getElem?_eq_some_iff.1 hj).1
      rw [Array.getElem?_append_left (by simpa using hl), List.getElem?_toArray]
      exact hj
    · rw [hcell, Array.getElem?_eq_getElem]
      · rfl
      · rw [Array.size_append, List.size_toArray, byteVs_len, size_zeroCells, ← hsz, show (Value.int .u8 0).cells.size = 1 from rfl, Nat.mul_one]
        omega
/-- A byte is turned. -/
theorem free_set {w : World} {g T c : Nat} {b : ByteArray} (h : FreeB w g T c b) {k : Nat} (hk : k < T) {z : Int} (h0 : 0 ≤ z) (h1 : z ≤ 255) : ∃ b', b'.size = T ∧ FreeB (w.setCell ⟨g, k, none⟩ (.int .u8 z)) g T c b' := by
  have hT : T = b.size := h.bytes.1
  obtain ⟨u, hu⟩ : ∃ u : UInt8, (u.toNat : Int) = z := ⟨UInt8.ofNat z.toNat, by rw [UInt8.toNat_ofNat']; omega⟩
  have hsz : (⟨(b.data.toList.set k u).toArray⟩ : ByteArray).size = T := by
    show ((b.data.toList.set k u).toArray).size = T
    rw [List.size_toArray, List.length_set, hT]
    simp
  have hks := Kept.one_set w ⟨g, k, none⟩ (.int .u8 z)
  refine ⟨⟨(b.data.toList.set k u).toArray⟩, hsz, ⟨⟨hsz.symm, fun _ ad e => by cases e; exact ⟨_, _, rfl⟩, fun i hi => ⟨g, 0, rfl, Nat.lt_of_lt_of_le h.lt hks.size, ?_⟩⟩, h.le, Nat.lt_of_lt_of_le h.lt hks.size, fun j hj => ⟨?_, by rw [World.frozen?_setCell]; exact (h.there j hj).2⟩⟩⟩
  · rw [Nat.zero_add]
    have hn : (nums (⟨(b.data.toList.set k u).toArray⟩ : ByteArray)).getD i 0 = if i = k then z else (nums b).getD i 0 := by
      have hkl : k < b.data.toList.length := by rw [hT] at hk; simpa using hk
      unfold nums
      simp only [List.getD_eq_getElem?_getD, List.getElem?_map, List.getElem?_set]
      by_cases hik : i = k
      · subst hik
        rw [if_pos rfl, if_pos hkl, if_pos rfl]
        exact hu
      · rw [if_neg (fun e => hik e.symm), if_neg hik]
    rw [hn]
    by_cases hik : i = k
    · subst hik
      rw [if_pos rfl]
      exact World.cell?_setCell_same' _ _ _ (h.there i (by have := h.le; omega)).1
    · rw [if_neg hik]
      exact (cell_set_other _ (by omega)).trans (h.cell hi)
  · by_cases hjk : j = k
    · subst hjk
      rw [World.cell?_setCell_same' _ _ _ (h.there j hj).1]
      rfl
    · rw [cell_set_other _ (by omega)]
      exact (h.there j hj).1
/-- The world behind '[]byte(s)', under a name of its own. -/
theorem free_abs {K : World → Prop} {w : World} {s : ByteArray} {C : Nat} {e : TypeId} (hC : s.size ≤ C) (h : ∀ w', Kept (fun _ => False) w w' → FreeB w' w.heap.size s.size C s → K w') : K (w.alloc (.cells (bytesRow s C) e ((bytesRow s C).size, (bytesRow s C).size + 1))) :=
  h _ (Kept.one_alloc w _) (free_conv w s hC e)
theorem free_absD {K : World → Prop} {w : World} {s : ByteArray} {C : Nat} {e : TypeId} (hC : s.size ≤ C) (h : ∀ w', Kept (fun _ => False) w w' → FreeB w' w.heap.size s.size C s → K w') : K (w.alloc (.cells (bytesRow s C) e ((bytesRow s C).size, (bytesRow s C).size + 1))).drew :=
  h _ (Kept.one_alloc w _).drew ((free_conv w s hC e).kept (Kept.refl (fun _ => False) _).drew (fun e => e))
theorem step_append_free {w : World} {g T c m ca : Nat} {b k : ByteArray} {ad : Option Addr} {ops : Array Oper} {o : Oper} {a : Act} {K : Act → World → Prop} {Q : Exit → Act → World → Prop} {B : Prop} (hgd : o.guard = none) (s x : Operand)
    (ho : o.op = .call { callee := .builtin .append, args := #[s, x], argTypes := #[28, 28] }) (hs : a.eval s = .slice (some ⟨g, 0, none⟩) T c) (h : FreeB w g T c b)
    (hx : a.eval x = .slice ad m ca) (hk : BytesAt w ad m k) (hbig : T + m ≤ 4000000)
    (hK : ∀ g' c' w', FreeB w' g' (T + m) c' (b ++ k) → (g' = g ∨ g' = w.heap.size) → Kept (fun x => x = g) w w' → K (a.put o.dst (.slice (some ⟨g', 0, none⟩) (T + m) c')) w') : if Region.wanted o (yielded ops a.tmps) = true then Oper.wp Tryz.prog o a w K Q else B := by
  have hw : Region.wanted o (yielded ops a.tmps) = true := by simp [Region.wanted, hgd]
  rw [if_pos hw]
  obtain ⟨g', c', w', hr, h2, h3, h4⟩ := app_free (ty := o.type) (ca := ca) h hk hbig
  unfold Oper.wp execOp
  simp only [ho, resolve, invoke, builtin, Sem.run_bind, Sem.run_pure, Result.andThen_ok, List.map_toArray, List.map_cons, List.map_nil, hs, hx, hr]
  exact hK g' c' w' h2 h3 h4
theorem BytesAt.pre {W : World} {a : Option Addr} {T n : Nat} {b : ByteArray} (h : BytesAt W a T b) (hn : n ≤ T) : BytesAt W a n (sub b 0 n) := by
  have hT : T = b.size := h.1
  have hs : (Go.Proofs.YtdkcnigghcbnpaaGreat.sub b 0 n).size = n := sub_size b 0 n (by omega)
  refine ⟨hs.symm, fun h0 ad e => h.2.1 (by omega) ad e, fun j hj => ?_⟩
  obtain ⟨g', o', e, hlt, hc⟩ := h.2.2 j (by omega)
  refine ⟨g', o', e, hlt, ?_⟩
  rw [hc]
  have e : (nums (Go.Proofs.YtdkcnigghcbnpaaGreat.sub b 0 n)).getD j 0 = (nums b).getD j 0 := by
    unfold nums Go.Proofs.YtdkcnigghcbnpaaGreat.sub
    simp only [List.getD_eq_getElem?_getD, List.getElem?_map, List.getElem?_take, List.getElem?_drop, Nat.zero_add]
    rw [if_pos hj]
  rw [e]
theorem xor_u8 (x y : Int) : ∃ z, bits BinOp.xor IntKind.u8 x y = z ∧ 0 ≤ z ∧ z ≤ 255 := by
  refine ⟨_, rfl, ?_⟩
  have key : ∀ m : Int, 0 ≤ IntKind.u8.wrap m ∧ IntKind.u8.wrap m ≤ 255 := by
    intro m
    have e : IntKind.u8.wrap m = m % 256 := by simp [IntKind.wrap, IntKind.bits, IntKind.signed]
    rw [e]
    omega
  exact key _
/-- The text of these bytes. -/
def bytesOf (s : Nat → Int) (n : Nat) : ByteArray := ⟨((List.range n).map fun i => UInt8.ofNat (s i).toNat).toArray⟩
theorem bytes_of_octets {W : World} {a : Option Addr} {n : Nat} {s : Nat → Int} (h : Octets W a n s) : BytesAt W a n (bytesOf s n) := by
  refine ⟨?_, fun h0 ad e => ?_, fun i hi => ?_⟩
  · show n = (((List.range n).map fun i => UInt8.ofNat (s i).toNat).toArray).size
    simp
  · obtain ⟨b, o, e', _⟩ := h 0 h0
    rw [e'] at e
    exact ⟨b, o, (Option.some.inj e).symm⟩
  · obtain ⟨b, o, e, hb, hc, h0, h1⟩ := h i hi
    refine ⟨b, o, e, hb, ?_⟩
    rw [hc]
    have : (nums (bytesOf s n)).getD i 0 = s i := by
      unfold nums bytesOf
      simp only [List.getD_eq_getElem?_getD, List.getElem?_map, List.getElem?_range hi, Option.map_some, Option.getD_some]
      rw [UInt8.toNat_ofNat']
      omega
    rw [this]
end Go.Proofs.YtdkcnigghcbnpaaGreat
